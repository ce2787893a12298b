/- Package code: frame.fits (a map made and asked at once). -/
import Derived.Test.YtndldoamadmphaaMo2
import Derived.Maps.Own
namespace Go.Proofs.Ytndldoamadmphaa
open Go.RowKit
theorem heap_alloc_set (w : World) (o o' : Obj) : { (w.alloc o) with heap := (w.alloc o).heap.setIfInBounds w.heap.size o' } = w.alloc o' := by
  simp only [World.alloc]
  congr 1
  apply Array.ext_getElem?
  intro j
  rw [Array.getElem?_setIfInBounds]
  by_cases e : w.heap.size = j
  · subst e
    simp
  · rw [if_neg e]
    by_cases h : j < w.heap.size
    · rw [Array.getElem?_push_lt h, Array.getElem?_push_lt h]
    · rw [Array.getElem?_eq_none (by simp; omega), Array.getElem?_eq_none (by simp; omega)]
theorem heap_alloc_at (w : World) (o : Obj) : (w.alloc o).heap[w.heap.size]? = some o := heap_alloc_new w o
theorem checkKey_int {P : Program} (w : World) {kt : TypeId} (hk : P.underlying kt = some (.int .i64)) (e : Bool) (n : Nat) (a : Int) : (Instr.checkKey e (n + 1) kt (.int .i64 a)).run P w = .ok () w := by
  simp only [Instr.checkKey, Sem.run_bind, run_underlying hk, Result.andThen_ok, Sem.run_pure]
/-- An entry more in a map just made. -/
theorem run_ins {P : Program} (w : World) {t kt et : TypeId} {b : Nat} (hb : b = w.heap.size) (ht : P.underlying t = some (.map kt et)) (hk : P.underlying kt = some (.int .i64)) (es : Array MapEntry) (clock : Nat) (a : Int) (v : Value)
    (hf : Instr.findNow (.int .i64) (.int .i64 a) es.toList 0 = some none) :
    (Instr.mapUpdate t (.map (some b)) (.int .i64 a) v).run P (w.alloc (.map es clock)) = .ok () (w.alloc (.map (es.push ⟨.int .i64 a, v, clock⟩) (clock + 1))) := by
  subst hb
  have h1 := heap_alloc_at w (.map es clock)
  have h2 : (Instr.checkKey false 10000 kt (.int .i64 a)).run P (w.alloc (.map es clock)) = .ok () (w.alloc (.map es clock)) := checkKey_int _ hk _ 9999 a
  have h3 : (Instr.findKey kt (.int .i64 a) es.toList).run P (w.alloc (.map es clock)) = .ok none (w.alloc (.map es clock)) := by
    simp [Instr.findKey, run_underlying hk, hf]
  simp only [Instr.mapUpdate, Sem.run_bind, run_underlying ht, MapKept.run_getObj_map h1, h2, h3, MapKept.run_setObj_map _ h1, Result.andThen_ok]
  rw [heap_alloc_set]
theorem run_look {P : Program} (w : World) {t kt et : TypeId} {b : Nat} (hb : b = w.heap.size) (ht : P.underlying t = some (.map kt et)) (hk : P.underlying kt = some (.int .i64)) (es : Array MapEntry) (clock : Nat) (a : Int) (v : Value) (i : Nat)
    (hf : Instr.findNow (.int .i64) (.int .i64 a) es.toList 0 = some (some (i, v))) :
    (Instr.lookup t (.map (some b)) (.int .i64 a) false).run P (w.alloc (.map es clock)) = .ok v (w.alloc (.map es clock)) := by
  subst hb
  have h1 := heap_alloc_at w (.map es clock)
  have h2 : (Instr.checkKey es.isEmpty 10000 kt (.int .i64 a)).run P (w.alloc (.map es clock)) = .ok () (w.alloc (.map es clock)) := checkKey_int _ hk _ 9999 a
  have h3 : (Instr.findKey kt (.int .i64 a) es.toList).run P (w.alloc (.map es clock)) = .ok (some (i, v)) (w.alloc (.map es clock)) := by
    simp [Instr.findKey, run_underlying hk, hf]
  simp only [Instr.lookup, Sem.run_bind, run_underlying ht, MapKept.run_getObj_map h1, h2, h3, Result.andThen_ok, Sem.run_pure, Bool.false_eq_true, if_false]
def mapE (gl nf size : Int) : Array MapEntry := #[⟨.int .i64 0, .int .i64 1, 0⟩, ⟨.int .i64 1, .int .i64 256, 1⟩, ⟨.int .i64 2, .int .i64 16, 2⟩, ⟨.int .i64 3, .int .i64 gl, 3⟩, ⟨.int .i64 4, .int .i64 nf, 4⟩, ⟨.int .i64 5, .int .i64 size, 5⟩, ⟨.int .i64 6, .int .i64 32, 6⟩]
theorem mapE_find (gl nf size : Int) {k : Nat} (hk : k < 7) : Instr.findNow (.int .i64) (.int .i64 k) (mapE gl nf size).toList 0 = some (some (k, .int .i64 (most gl nf size k))) := by
  have : k = 0 ∨ k = 1 ∨ k = 2 ∨ k = 3 ∨ k = 4 ∨ k = 5 ∨ k = 6 := by omega
  rcases this with rfl | rfl | rfl | rfl | rfl | rfl | rfl <;> rfl
set_option maxRecDepth 100000 in
set_option maxHeartbeats 2000000 in
theorem fits_c (w : World) (gl nf size : Int) {k : Nat} (hk : k < 7) (v : Int) :
    Calls Try.prog 76 #[.agg #[.int .i64 gl, .int .i64 nf, .int .i64 size], .int .i64 k, .int .i64 v] w fun e w' => e = .returned (.bool (decide (partOK gl nf size k v))) ∧ Upd (fun _ => False) w w' := by
  have hmm : ∀ (w : World), (Instr.makeMap 124 none).run Try.prog w = .ok (.map (some w.heap.size)) (w.alloc (.map #[] 0)) := fun _ => rfl
  obtain ⟨w1, hw1⟩ : ∃ w1, w1 = w.alloc (.cells #[.int .i64 gl, .int .i64 nf, .int .i64 size] 89) := ⟨_, rfl⟩
  have hz : w.heap.size + 1 = w1.heap.size := by rw [hw1]; simp
  have i0 := run_ins (P := Try.prog) w1 hz Try.underlying124 Try.underlying3 #[] 0 0 (.int .i64 1) rfl
  have i1 := run_ins (P := Try.prog) w1 hz Try.underlying124 Try.underlying3 #[⟨.int .i64 0, .int .i64 1, 0⟩] 1 1 (.int .i64 256) rfl
  have i2 := run_ins (P := Try.prog) w1 hz Try.underlying124 Try.underlying3 #[⟨.int .i64 0, .int .i64 1, 0⟩, ⟨.int .i64 1, .int .i64 256, 1⟩] 2 2 (.int .i64 16) rfl
  have i3 := run_ins (P := Try.prog) w1 hz Try.underlying124 Try.underlying3 #[⟨.int .i64 0, .int .i64 1, 0⟩, ⟨.int .i64 1, .int .i64 256, 1⟩, ⟨.int .i64 2, .int .i64 16, 2⟩] 3 3 (.int .i64 gl) rfl
  have i4 := run_ins (P := Try.prog) w1 hz Try.underlying124 Try.underlying3 #[⟨.int .i64 0, .int .i64 1, 0⟩, ⟨.int .i64 1, .int .i64 256, 1⟩, ⟨.int .i64 2, .int .i64 16, 2⟩, ⟨.int .i64 3, .int .i64 gl, 3⟩] 4 4 (.int .i64 nf) rfl
  have i5 := run_ins (P := Try.prog) w1 hz Try.underlying124 Try.underlying3 #[⟨.int .i64 0, .int .i64 1, 0⟩, ⟨.int .i64 1, .int .i64 256, 1⟩, ⟨.int .i64 2, .int .i64 16, 2⟩, ⟨.int .i64 3, .int .i64 gl, 3⟩, ⟨.int .i64 4, .int .i64 nf, 4⟩] 5 5 (.int .i64 size) rfl
  have i6 := run_ins (P := Try.prog) w1 hz Try.underlying124 Try.underlying3 #[⟨.int .i64 0, .int .i64 1, 0⟩, ⟨.int .i64 1, .int .i64 256, 1⟩, ⟨.int .i64 2, .int .i64 16, 2⟩, ⟨.int .i64 3, .int .i64 gl, 3⟩, ⟨.int .i64 4, .int .i64 nf, 4⟩, ⟨.int .i64 5, .int .i64 size, 5⟩] 6 6 (.int .i64 32) rfl
  have il := run_look (P := Try.prog) w1 hz Try.underlying124 Try.underlying3 (mapE gl nf size) 7 k _ k (mapE_find gl nf size hk)
  obtain ⟨b, hbm⟩ : ∃ b, b = most gl nf size k := ⟨_, rfl⟩
  have hres : decide (partOK gl nf size k v) = (decide (0 ≤ v) && decide (v < b)) := by
    have e : partOK gl nf size k v ↔ (0 ≤ v ∧ v < b) := by rw [hbm]; exact Iff.rfl
    rw [Bool.eq_iff_iff]
    simp [e]
  rw [← hbm] at il
  rw [hres]
  unfold mapE at il
  rw [hw1] at i0 i1 i2 i3 i4 i5 i6 il
  clear hres hbm hz hw1 hk
  have hfin : ∀ o, Upd (fun _ => False) w ((w.alloc (.cells #[.int .i64 gl, .int .i64 nf, .int .i64 size] 89)).alloc o) := fun o => ((Upd.refl _ _).alloc _).alloc _
  have HF := Lib.hid hfin
  clear hfin
  by_cases h0 : 0 ≤ v
  · go_enter Try.func76, Try.ntmps76
    go_wp2_with fail
    go_ret
    exact ⟨by simp [h0], HF.out _⟩
  · have h1 : v < 0 := by omega
    have h0' : decide (0 ≤ v) = false := by simpa using h0
    clear h0
    go_enter Try.func76, Try.ntmps76
    go_wp2_with fail
    go_ret
    exact ⟨by simp [h0'], HF.out _⟩
/-- The table of parts. -/
def partsF : Array Value := #[.int .i64 0, .int .i64 0, .int .i64 0, .int .i64 2, .int .i64 1, .int .i64 0, .int .i64 2, .int .i64 2, .int .i64 1, .int .i64 2, .int .i64 1, .int .i64 2, .int .i64 2, .int .i64 2, .int .i64 0, .int .i64 2, .int .i64 0, .int .i64 0, .int .i64 2, .int .i64 3, .int .i64 0, .int .i64 3, .int .i64 2, .int .i64 0, .int .i64 4, .int .i64 2, .int .i64 0,
  .int .i64 0, .int .i64 0, .int .i64 0, .int .i64 0, .int .i64 1, .int .i64 1, .int .i64 6, .int .i64 0, .int .i64 0, .int .i64 6, .int .i64 0, .int .i64 0, .int .i64 2, .int .i64 2, .int .i64 0, .int .i64 5, .int .i64 0, .int .i64 0, .int .i64 2, .int .i64 2, .int .i64 5, .int .i64 1, .int .i64 1, .int .i64 0, .int .i64 5, .int .i64 0, .int .i64 0]
def part3 (k : Nat) : Array Value := #[.int .i64 (partsL.getD k (0, 0, 0)).1, .int .i64 (partsL.getD k (0, 0, 0)).2.1, .int .i64 (partsL.getD k (0, 0, 0)).2.2]
theorem lt18 (k : Nat) (h : k < 18) : k = 0 ∨ k = 1 ∨ k = 2 ∨ k = 3 ∨ k = 4 ∨ k = 5 ∨ k = 6 ∨ k = 7 ∨ k = 8 ∨ k = 9 ∨ k = 10 ∨ k = 11 ∨ k = 12 ∨ k = 13 ∨ k = 14 ∨ k = 15 ∨ k = 16 ∨ k = 17 := by omega
theorem index_parts {k : Nat} (h : k < 18) (w : World) : (Instr.index 110 (.agg partsF) (.int .i64 k)).run Try.prog w = .ok (.agg (part3 k)) w := by
  rcases lt18 k h with rfl | rfl | rfl | rfl | rfl | rfl | rfl | rfl | rfl | rfl | rfl | rfl | rfl | rfl | rfl | rfl | rfl | rfl <;> kernel_rfl
theorem index_part {k : Nat} (w : World) {j : Nat} (hj : j < 3) {v : Value} (hv : (part3 k)[j]? = some v) : (Instr.index 109 (.agg (part3 k)) (.int .i64 j)).run Try.prog w = .ok v w :=
  run_index_one (P := Try.prog) 109 3 3 (part3 k) j v Try.underlying109 (fun _ => Try.isAgg3 _) (fun _ => Try.sizeOf3 _) hj hv w
def zeros54 : Array Value := Array.replicate 54 (.int .i64 0)
set_option maxRecDepth 100000 in
set_option maxHeartbeats 2000000 in
theorem parts_c (w : World) : Calls Try.prog 75 #[] w fun e w' => e = .returned (.agg partsF) ∧ Upd (fun _ => False) w w' := by
  have B0 : Blk (w.alloc (.cells zeros54 110)) w.heap.size 110 zeros54 := Blk.new _ _ _
  have HB0 := Lib.hid B0
  clear B0
  go_enter Try.func75, Try.ntmps75
  go_wp2_with (refine wpList_store_row rfl 110 (.tmp 0) (.tmp 19) rfl w.heap.size rfl partsF rfl 110 zeros54 (Blk.out HB0.out) (by kernel_rfl) (by kernel_rfl) (by kernel_rfl) ?_)
  refine bodyPost_ret (results_cell_row rfl _ _ w.heap.size 110 partsF (0, 0) _ rfl (Blk.setRow HB0.out partsF) Try.underlying110 rfl (by kernel_rfl)) rfl ?_
  exact ⟨rfl, ((Upd.refl _ _).alloc _).setRow (.inr (Nat.le_refl _)) _⟩
end Go.Proofs.Ytndldoamadmphaa
