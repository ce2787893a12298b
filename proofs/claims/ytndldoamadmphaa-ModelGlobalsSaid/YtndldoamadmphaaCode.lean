/- Package code: frame.fits (a map made and asked at once). Package code: frame.wrong. Package code: May. -/
import Derived.Test.YtndldoamadmphaaMo
import Derived.Maps.Own
namespace Go.Proofs.Ytndldoamadmphaa
open Go.RowKit
theorem heap_alloc_set (w : World) (o o' : Obj) : { (w.alloc o) with heap := (w.alloc o).heap.setIfInBounds w.heap.size o' } = w.alloc o' := by
  simp only [World.alloc]
  congr 1
  apply Array.ext_getElem?
  intro j
  rw [Array.getElem?_setIfInBounds]
  by_cases e : w.heap.size = j
  · subst e
    simp
  · rw [if_neg e]
    by_cases h : j < w.heap.size
    · rw [Array.getElem?_push_lt h, Array.getElem?_push_lt h]
    · rw [Array.getElem?_eq_none (by simp; omega), Array.getElem?_eq_none (by simp; omega)]
theorem heap_alloc_at (w : World) (o : Obj) : (w.alloc o).heap[w.heap.size]? = some o := heap_alloc_new w o
theorem checkKey_int {P : Program} (w : World) {kt : TypeId} (hk : P.underlying kt = some (.int .i64)) (e : Bool) (n : Nat) (a : Int) : (Instr.checkKey e (n + 1) kt (.int .i64 a)).run P w = .ok () w := by
  simp only [Instr.checkKey, Sem.run_bind, run_underlying hk, Result.andThen_ok, Sem.run_pure]
/-- An entry more in a map just made. -/
theorem run_ins {P : Program} (w : World) {t kt et : TypeId} {b : Nat} (hb : b = w.heap.size) (ht : P.underlying t = some (.map kt et)) (hk : P.underlying kt = some (.int .i64)) (es : Array MapEntry) (clock : Nat) (a : Int) (v : Value)
    (hf : Instr.findNow (.int .i64) (.int .i64 a) es.toList 0 = some none) :
    (Instr.mapUpdate t (.map (some b)) (.int .i64 a) v).run P (w.alloc (.map es clock)) = .ok () (w.alloc (.map (es.push ⟨.int .i64 a, v, clock⟩) (clock + 1))) := by
  subst hb
  have h1 := heap_alloc_at w (.map es clock)
  have h2 : (Instr.checkKey false 10000 kt (.int .i64 a)).run P (w.alloc (.map es clock)) = .ok () (w.alloc (.map es clock)) := checkKey_int _ hk _ 9999 a
  have h3 : (Instr.findKey kt (.int .i64 a) es.toList).run P (w.alloc (.map es clock)) = .ok none (w.alloc (.map es clock)) := by
    simp [Instr.findKey, run_underlying hk, hf]
  simp only [Instr.mapUpdate, Sem.run_bind, run_underlying ht, MapKept.run_getObj_map h1, h2, h3, MapKept.run_setObj_map _ h1, Result.andThen_ok]
  rw [heap_alloc_set]
theorem run_look {P : Program} (w : World) {t kt et : TypeId} {b : Nat} (hb : b = w.heap.size) (ht : P.underlying t = some (.map kt et)) (hk : P.underlying kt = some (.int .i64)) (es : Array MapEntry) (clock : Nat) (a : Int) (v : Value) (i : Nat)
    (hf : Instr.findNow (.int .i64) (.int .i64 a) es.toList 0 = some (some (i, v))) :
    (Instr.lookup t (.map (some b)) (.int .i64 a) false).run P (w.alloc (.map es clock)) = .ok v (w.alloc (.map es clock)) := by
  subst hb
  have h1 := heap_alloc_at w (.map es clock)
  have h2 : (Instr.checkKey es.isEmpty 10000 kt (.int .i64 a)).run P (w.alloc (.map es clock)) = .ok () (w.alloc (.map es clock)) := checkKey_int _ hk _ 9999 a
  have h3 : (Instr.findKey kt (.int .i64 a) es.toList).run P (w.alloc (.map es clock)) = .ok (some (i, v)) (w.alloc (.map es clock)) := by
    simp [Instr.findKey, run_underlying hk, hf]
  simp only [Instr.lookup, Sem.run_bind, run_underlying ht, MapKept.run_getObj_map h1, h2, h3, Result.andThen_ok, Sem.run_pure, Bool.false_eq_true, if_false]
def mapE (gl nf size : Int) : Array MapEntry := #[⟨.int .i64 0, .int .i64 1, 0⟩, ⟨.int .i64 1, .int .i64 256, 1⟩, ⟨.int .i64 2, .int .i64 16, 2⟩, ⟨.int .i64 3, .int .i64 gl, 3⟩, ⟨.int .i64 4, .int .i64 nf, 4⟩, ⟨.int .i64 5, .int .i64 size, 5⟩, ⟨.int .i64 6, .int .i64 32, 6⟩]
theorem mapE_find (gl nf size : Int) {k : Nat} (hk : k < 7) : Instr.findNow (.int .i64) (.int .i64 k) (mapE gl nf size).toList 0 = some (some (k, .int .i64 (most gl nf size k))) := by
  have : k = 0 ∨ k = 1 ∨ k = 2 ∨ k = 3 ∨ k = 4 ∨ k = 5 ∨ k = 6 := by omega
  rcases this with rfl | rfl | rfl | rfl | rfl | rfl | rfl <;> rfl
set_option maxRecDepth 100000 in
set_option maxHeartbeats 2000000 in
theorem fits_c (w : World) (gl nf size : Int) {k : Nat} (hk : k < 7) (v : Int) :
    Calls Try.prog 76 #[.agg #[.int .i64 gl, .int .i64 nf, .int .i64 size], .int .i64 k, .int .i64 v] w fun e w' => e = .returned (.bool (decide (partOK gl nf size k v))) ∧ Upd (fun _ => False) w w' := by
  have hmm : ∀ (w : World), (Instr.makeMap 124 none).run Try.prog w = .ok (.map (some w.heap.size)) (w.alloc (.map #[] 0)) := fun _ => rfl
  obtain ⟨w1, hw1⟩ : ∃ w1, w1 = w.alloc (.cells #[.int .i64 gl, .int .i64 nf, .int .i64 size] 89) := ⟨_, rfl⟩
  have hz : w.heap.size + 1 = w1.heap.size := by rw [hw1]; simp
  have i0 := run_ins (P := Try.prog) w1 hz Try.underlying124 Try.underlying3 #[] 0 0 (.int .i64 1) rfl
  have i1 := run_ins (P := Try.prog) w1 hz Try.underlying124 Try.underlying3 #[⟨.int .i64 0, .int .i64 1, 0⟩] 1 1 (.int .i64 256) rfl
  have i2 := run_ins (P := Try.prog) w1 hz Try.underlying124 Try.underlying3 #[⟨.int .i64 0, .int .i64 1, 0⟩, ⟨.int .i64 1, .int .i64 256, 1⟩] 2 2 (.int .i64 16) rfl
  have i3 := run_ins (P := Try.prog) w1 hz Try.underlying124 Try.underlying3 #[⟨.int .i64 0, .int .i64 1, 0⟩, ⟨.int .i64 1, .int .i64 256, 1⟩, ⟨.int .i64 2, .int .i64 16, 2⟩] 3 3 (.int .i64 gl) rfl
  have i4 := run_ins (P := Try.prog) w1 hz Try.underlying124 Try.underlying3 #[⟨.int .i64 0, .int .i64 1, 0⟩, ⟨.int .i64 1, .int .i64 256, 1⟩, ⟨.int .i64 2, .int .i64 16, 2⟩, ⟨.int .i64 3, .int .i64 gl, 3⟩] 4 4 (.int .i64 nf) rfl
  have i5 := run_ins (P := Try.prog) w1 hz Try.underlying124 Try.underlying3 #[⟨.int .i64 0, .int .i64 1, 0⟩, ⟨.int .i64 1, .int .i64 256, 1⟩, ⟨.int .i64 2, .int .i64 16, 2⟩, ⟨.int .i64 3, .int .i64 gl, 3⟩, ⟨.int .i64 4, .int .i64 nf, 4⟩] 5 5 (.int .i64 size) rfl
  have i6 := run_ins (P := Try.prog) w1 hz Try.underlying124 Try.underlying3 #[⟨.int .i64 0, .int .i64 1, 0⟩, ⟨.int .i64 1, .int .i64 256, 1⟩, ⟨.int .i64 2, .int .i64 16, 2⟩, ⟨.int .i64 3, .int .i64 gl, 3⟩, ⟨.int .i64 4, .int .i64 nf, 4⟩, ⟨.int .i64 5, .int .i64 size, 5⟩] 6 6 (.int .i64 32) rfl
  have il := run_look (P := Try.prog) w1 hz Try.underlying124 Try.underlying3 (mapE gl nf size) 7 k _ k (mapE_find gl nf size hk)
  obtain ⟨b, hbm⟩ : ∃ b, b = most gl nf size k := ⟨_, rfl⟩
  have hres : decide (partOK gl nf size k v) = (decide (0 ≤ v) && decide (v < b)) := by
    have e : partOK gl nf size k v ↔ (0 ≤ v ∧ v < b) := by rw [hbm]; exact Iff.rfl
    rw [Bool.eq_iff_iff]
    simp [e]
  rw [← hbm] at il
  rw [hres]
  unfold mapE at il
  rw [hw1] at i0 i1 i2 i3 i4 i5 i6 il
  clear hres hbm hz hw1 hk
  have hfin : ∀ o, Upd (fun _ => False) w ((w.alloc (.cells #[.int .i64 gl, .int .i64 nf, .int .i64 size] 89)).alloc o) := fun o => ((Upd.refl _ _).alloc _).alloc _
  have HF := Lib.hid hfin
  clear hfin
  by_cases h0 : 0 ≤ v
  · go_enter Try.func76, Try.ntmps76
    go_wp2_with fail
    go_ret
    exact ⟨by simp [h0], HF.out _⟩
  · have h1 : v < 0 := by omega
    have h0' : decide (0 ≤ v) = false := by simpa using h0
    clear h0
    go_enter Try.func76, Try.ntmps76
    go_wp2_with fail
    go_ret
    exact ⟨by simp [h0'], HF.out _⟩
/-- The table of parts. -/
def partsF : Array Value := #[.int .i64 0, .int .i64 0, .int .i64 0, .int .i64 2, .int .i64 1, .int .i64 0, .int .i64 2, .int .i64 2, .int .i64 1, .int .i64 2, .int .i64 1, .int .i64 2, .int .i64 2, .int .i64 2, .int .i64 0, .int .i64 2, .int .i64 0, .int .i64 0, .int .i64 2, .int .i64 3, .int .i64 0, .int .i64 3, .int .i64 2, .int .i64 0, .int .i64 4, .int .i64 2, .int .i64 0,
  .int .i64 0, .int .i64 0, .int .i64 0, .int .i64 0, .int .i64 1, .int .i64 1, .int .i64 6, .int .i64 0, .int .i64 0, .int .i64 6, .int .i64 0, .int .i64 0, .int .i64 2, .int .i64 2, .int .i64 0, .int .i64 5, .int .i64 0, .int .i64 0, .int .i64 2, .int .i64 2, .int .i64 5, .int .i64 1, .int .i64 1, .int .i64 0, .int .i64 5, .int .i64 0, .int .i64 0]
def part3 (k : Nat) : Array Value := #[.int .i64 (partsL.getD k (0, 0, 0)).1, .int .i64 (partsL.getD k (0, 0, 0)).2.1, .int .i64 (partsL.getD k (0, 0, 0)).2.2]
theorem lt18 (k : Nat) (h : k < 18) : k = 0 ∨ k = 1 ∨ k = 2 ∨ k = 3 ∨ k = 4 ∨ k = 5 ∨ k = 6 ∨ k = 7 ∨ k = 8 ∨ k = 9 ∨ k = 10 ∨ k = 11 ∨ k = 12 ∨ k = 13 ∨ k = 14 ∨ k = 15 ∨ k = 16 ∨ k = 17 := by omega
theorem index_parts {k : Nat} (h : k < 18) (w : World) : (Instr.index 110 (.agg partsF) (.int .i64 k)).run Try.prog w = .ok (.agg (part3 k)) w := by
  rcases lt18 k h with rfl | rfl | rfl | rfl | rfl | rfl | rfl | rfl | rfl | rfl | rfl | rfl | rfl | rfl | rfl | rfl | rfl | rfl <;> kernel_rfl
theorem index_part {k : Nat} (w : World) {j : Nat} (hj : j < 3) {v : Value} (hv : (part3 k)[j]? = some v) : (Instr.index 109 (.agg (part3 k)) (.int .i64 j)).run Try.prog w = .ok v w :=
  run_index_one (P := Try.prog) 109 3 3 (part3 k) j v Try.underlying109 (fun _ => Try.isAgg3 _) (fun _ => Try.sizeOf3 _) hj hv w
def zeros54 : Array Value := Array.replicate 54 (.int .i64 0)
set_option maxRecDepth 100000 in
set_option maxHeartbeats 2000000 in
theorem parts_c (w : World) : Calls Try.prog 75 #[] w fun e w' => e = .returned (.agg partsF) ∧ Upd (fun _ => False) w w' := by
  have B0 : Blk (w.alloc (.cells zeros54 110)) w.heap.size 110 zeros54 := Blk.new _ _ _
  have HB0 := Lib.hid B0
  clear B0
  go_enter Try.func75, Try.ntmps75
  go_wp2_with (refine wpList_store_row rfl 110 (.tmp 0) (.tmp 19) rfl w.heap.size rfl partsF rfl 110 zeros54 (Blk.out HB0.out) (by kernel_rfl) (by kernel_rfl) (by kernel_rfl) ?_)
  refine bodyPost_ret (results_cell_row rfl _ _ w.heap.size 110 partsF (0, 0) _ rfl (Blk.setRow HB0.out partsF) Try.underlying110 rfl (by kernel_rfl)) rfl ?_
  exact ⟨rfl, ((Upd.refl _ _).alloc _).setRow (.inr (Nat.le_refl _)) _⟩
end Go.Proofs.Ytndldoamadmphaa
namespace Go.Proofs.Ytndldoamadmphaa
open Go.RowKit
def kindN (i : In) (j : Nat) : Nat := match j with | 0 => (kindsOf i).1 | 1 => (kindsOf i).2.1 | _ => (kindsOf i).2.2
def argN (i : In) (j : Nat) : Int := match j with | 0 => i.a | 1 => i.b | _ => i.c
def wrongI (gl nf size : Int) (i : In) : Int :=
  if ¬ (0 ≤ i.op ∧ i.op < 18) then 0 else if ¬ partOK gl nf size (kindN i 0) (argN i 0) then 1 else if ¬ partOK gl nf size (kindN i 1) (argN i 1) then 2 else if ¬ partOK gl nf size (kindN i 2) (argN i 2) then 3 else -1
theorem kinds_lt (k : Nat) : (partsL.getD k (0, 0, 0)).1 < 7 ∧ (partsL.getD k (0, 0, 0)).2.1 < 7 ∧ (partsL.getD k (0, 0, 0)).2.2 < 7 := by
  by_cases h : k < 18
  · rcases lt18 k h with rfl | rfl | rfl | rfl | rfl | rfl | rfl | rfl | rfl | rfl | rfl | rfl | rfl | rfl | rfl | rfl | rfl | rfl <;> decide
  · rw [List.getD, List.getElem?_eq_none (by simp [partsL]; omega)]
    decide
theorem kindN_lt (i : In) (j : Nat) : kindN i j < 7 := by
  obtain ⟨h1, h2, h3⟩ := kinds_lt i.op.toNat
  unfold kindN kindsOf
  split <;> assumption
theorem part3_at (i : In) {j : Nat} (hj : j < 3) : (part3 i.op.toNat)[j]? = some (.int .i64 (kindN i j)) := by
  have e : j = 0 ∨ j = 1 ∨ j = 2 := by omega
  rcases e with rfl | rfl | rfl <;> rfl
theorem argN_at (i : In) {j : Nat} (hj : j < 3) : (#[Value.int .i64 i.a, .int .i64 i.b, .int .i64 i.c] : Array Value)[j]? = some (.int .i64 (argN i j)) := by
  have e : j = 0 ∨ j = 1 ∨ j = 2 := by omega
  rcases e with rfl | rfl | rfl <;> rfl
theorem wrong_stop {gl nf size : Int} {i : In} (h : 0 ≤ i.op ∧ i.op < 18) {j : Nat} (hj : j < 3) (hb : ∀ t, t < j → partOK gl nf size (kindN i t) (argN i t)) (hn : ¬ partOK gl nf size (kindN i j) (argN i j)) : wrongI gl nf size i = (j : Int) + 1 := by
  have e : j = 0 ∨ j = 1 ∨ j = 2 := by omega
  unfold wrongI
  rw [if_neg (by simpa using h)]
  rcases e with rfl | rfl | rfl
  · rw [if_pos hn]; rfl
  · rw [if_neg (fun c => c (hb 0 (by omega))), if_pos hn]; rfl
  · rw [if_neg (fun c => c (hb 0 (by omega))), if_neg (fun c => c (hb 1 (by omega))), if_pos hn]; rfl
theorem wrong_none {gl nf size : Int} {i : In} (h : 0 ≤ i.op ∧ i.op < 18) (hb : ∀ t, t < 3 → partOK gl nf size (kindN i t) (argN i t)) : wrongI gl nf size i = -1 := by
  unfold wrongI
  rw [if_neg (by simpa using h), if_neg (fun c => c (hb 0 (by omega))), if_neg (fun c => c (hb 1 (by omega))), if_neg (fun c => c (hb 2 (by omega)))]
set_option maxRecDepth 100000 in
set_option maxHeartbeats 2000000 in
theorem wrong_op (w : World) (gl nf size : Int) (i : In) (h : ¬ (0 ≤ i.op ∧ i.op < 18)) :
    Calls Try.prog 52 #[.agg #[.int .i64 gl, .int .i64 nf, .int .i64 size], i.v] w fun e w' => e = .returned (.int .i64 (wrongI gl nf size i)) ∧ Upd (fun _ => False) w w' := by
  have hw : wrongI gl nf size i = 0 := by unfold wrongI; rw [if_pos h]
  rw [hw]
  have hfin : ∀ o1 o2, Upd (fun _ => False) w ((w.alloc o1).alloc o2) := fun o1 o2 => ((Upd.refl _ _).alloc _).alloc _
  have HF := Lib.hid hfin
  clear hfin hw
  unfold In.v
  by_cases h0 : i.op < 0
  · clear h
    go_enter Try.func52, Try.ntmps52
    go_wp2_with fail
    go_ret
    exact ⟨rfl, HF.out _ _⟩
  · have h1 : 17 < i.op := by omega
    clear h
    go_enter Try.func52, Try.ntmps52
    go_wp2_with fail
    go_ret
    exact ⟨rfl, HF.out _ _⟩
set_option maxRecDepth 100000 in
set_option maxHeartbeats 2000000 in
theorem wrong_yes (w : World) (gl nf size : Int) (i : In) (h : 0 ≤ i.op ∧ i.op < 18) :
    Calls Try.prog 52 #[.agg #[.int .i64 gl, .int .i64 nf, .int .i64 size], i.v] w fun e w' => e = .returned (.int .i64 (wrongI gl nf size i)) ∧ Upd (fun _ => False) w w' := by
  obtain ⟨k, hk⟩ : ∃ k : Nat, k = i.op.toNat := ⟨_, rfl⟩
  have hko : i.op = k := by omega
  have hk18 : k < 18 := by omega
  have hidx := index_parts hk18
  have hkI : (k : Int) < 18 := by omega
  have hk0 : 0 ≤ (k : Int) := by omega
  obtain ⟨W, hW⟩ : ∃ W, W = (w.alloc (.cells #[.int .i64 gl, .int .i64 nf, .int .i64 size] 89)).alloc (.cells #[.int .i64 k, .int .i64 i.a, .int .i64 i.b, .int .i64 i.c] 40) := ⟨_, rfl⟩
  have bf : Blk W w.heap.size 89 #[.int .i64 gl, .int .i64 nf, .int .i64 size] := by rw [hW]; exact (Blk.new _ _ _).alloc _
  have bi : Blk W (w.heap.size + 1) 40 #[.int .i64 k, .int .i64 i.a, .int .i64 i.b, .int .i64 i.c] := by rw [hW]; exact Blk.new' _ _ _ (by simp)
  have hwW : Upd (fun _ => False) w W := by rw [hW]; exact ((Upd.refl _ _).alloc _).alloc _
  have HI : Hid (∀ w', Upd (fun _ => False) W w' → w'.cell? ⟨w.heap.size + 1, 0, none⟩ = some (.int .i64 k)) := Lib.hid (fun w' hu => (bi.upd hu (fun e => e)).cell 0)
  have HBF := Lib.hid bf
  have HBI := Lib.hid bi
  have HWW := Lib.hid hwW
  have H := Lib.hid h
  have HK := Lib.hid hk
  have i0 := bi.cell 0
  have i0' : W.cell? ⟨w.heap.size + 1, 0, none⟩ = some (.int .i64 k) := i0
  have li := bi.lt
  rw [hW] at i0' li
  unfold In.v
  rw [hko]
  clear bf bi hwW h hk i0 hko
  go_enter Try.func52, Try.ntmps52
  go_wp2_with fail
  rw [← hW] at i0' li ⊢
  clear hW
  go_region_held3 (fun w' => w'.cell? ⟨w.heap.size + 1, 0, none⟩ = some (.int .i64 k)) (first | go_keep | (exact HI.out _ (Upd.fromDrew (by assumption)))) (first | (go_at_call 75; refine (parts_c _).mono ?_; rintro e w1 ⟨rfl, hu⟩))
  go_wp2_with fail
  have HU := Lib.hid hu.fromDrew
  clear hu i0' li hidx
  go_loopw [19] (fun v wr => ∃ j : Nat, j ≤ 3 ∧ v = .int .i64 j ∧ Upd (fun _ => False) W wr ∧ ∀ t, t < j → partOK gl nf size (kindN i t) (argN i t)) (fun v _ => 3 - (intOf v).toNat)
  case atStart => exact ⟨0, by omega, rfl, HU.out, fun t ht => absurd ht (by omega)⟩
  case round =>
    obtain ⟨j, hj, rfl, hur, hb⟩ := hrel
    have HUR := Lib.hid hur
    have HB := Lib.hid hb
    clear hur hb
    by_cases hlt : j < 3
    · have hjI : (j : Int) < 3 := by omega
      have hj0 : 0 ≤ (j : Int) := by omega
      have hpart := part3_at i hlt
      rw [← HK.out] at hpart
      have hix := fun w => index_part (k := k) w hlt hpart
      clear hpart
      have hS : ∀ W', Upd (fun _ => False) W W' → W'.cell? ⟨w.heap.size, 0, none⟩ = some (.int .i64 gl) ∧ W'.cell? ⟨w.heap.size, 1, none⟩ = some (.int .i64 nf) ∧ W'.cell? ⟨w.heap.size, 2, none⟩ = some (.int .i64 size) ∧ W'.cell? ⟨w.heap.size + 1, 1, none⟩ = some (.int .i64 i.a) ∧ W'.cell? ⟨w.heap.size + 1, 2, none⟩ = some (.int .i64 i.b) ∧ W'.cell? ⟨w.heap.size + 1, 3, none⟩ = some (.int .i64 i.c) := fun W' hu =>
        ⟨(HBF.out.upd hu (fun e => e)).cell 0, (HBF.out.upd hu (fun e => e)).cell 1, (HBF.out.upd hu (fun e => e)).cell 2, (HBI.out.upd hu (fun e => e)).cell 1, (HBI.out.upd hu (fun e => e)).cell 2, (HBI.out.upd hu (fun e => e)).cell 3⟩
      have hS0 := Lib.hid (hS wr HUR.out)
      have hS1 := Lib.hid (hS _ ((HUR.out.alloc (.cells #[.int .i64 i.a, .int .i64 i.b, .int .i64 i.c] 3)).drew))
      have HS := Lib.hid hS
      have hnew : (wr.alloc (.cells #[.int .i64 i.a, .int .i64 i.b, .int .i64 i.c] 3)).drew.cell? ⟨wr.heap.size, j, none⟩ = some (.int .i64 (argN i j)) := by
        have := (Blk.new wr 3 #[.int .i64 i.a, .int .i64 i.b, .int .i64 i.c]).cell j
        rw [argN_at i hlt] at this
        exact this
      have hlf := (HBF.out.upd HUR.out (fun e => e)).lt
      have hli := (HBI.out.upd HUR.out (fun e => e)).lt
      obtain ⟨kn, hkn⟩ : ∃ kn, kn = kindN i j := ⟨_, rfl⟩
      obtain ⟨an, han⟩ : ∃ an, an = argN i j := ⟨_, rfl⟩
      have hkn7 : kn < 7 := by rw [hkn]; exact kindN_lt i j
      rw [← hkn] at hix
      rw [← han] at hnew
      have HKN := Lib.hid hkn
      have HAN := Lib.hid han
      clear hS hkn han
      go_wp2_with fail
      refine wp_region_held_drew (S := (fun W' => W'.cell? ⟨w.heap.size, 0, none⟩ = some (.int .i64 gl) ∧ W'.cell? ⟨w.heap.size, 1, none⟩ = some (.int .i64 nf) ∧ W'.cell? ⟨w.heap.size, 2, none⟩ = some (.int .i64 size) ∧ W'.cell? ⟨w.heap.size + 1, 1, none⟩ = some (.int .i64 i.a) ∧ W'.cell? ⟨w.heap.size + 1, 2, none⟩ = some (.int .i64 i.b) ∧ W'.cell? ⟨w.heap.size + 1, 3, none⟩ = some (.int .i64 i.c))) (by kernel_rfl) hS0.out (fun hHeld => ?_)
      refine wpAnyH_take (i := 0) (v := .agg #[.int .i64 gl, .int .i64 nf, .int .i64 size]) rfl (by kernel_rfl) (by kernel_rfl) (by kernel_rfl) (fun _ _ _ h => h) (Or.inl ⟨by rfl, ?_⟩) (by assumption) ?_
      · intro w hSw
        try dsimp only at hSw
        go_simp
      simp only [Act.put, List.setIfInBounds_toArray]
      refine wpAnyH_take (i := 1) (v := .int .i64 kn) rfl (by kernel_rfl) (by kernel_rfl) (by kernel_rfl) (fun _ _ _ h => h) (Or.inl ⟨by rfl, ?_⟩) (by assumption) ?_
      · intro w hSw
        try dsimp only at hSw
        go_simp
      simp only [Act.put]
      refine wpAnyH_take (i := 2) (v := .pointer (some ⟨w.heap.size + 1, 1, none⟩)) rfl (by kernel_rfl) (by kernel_rfl) (by kernel_rfl) (fun _ _ _ h => h) (Or.inl ⟨by rfl, ?_⟩) (by assumption) ?_
      · intro w hSw
        try dsimp only at hSw
        go_simp
      simp only [Act.put]
      refine wpAnyH_take (i := 3) (v := .int .i64 i.a) rfl (by kernel_rfl) (by kernel_rfl) (by kernel_rfl) (fun _ _ _ h => h) (Or.inl ⟨by rfl, ?_⟩) (by assumption) ?_
      · intro w hSw
        try dsimp only at hSw
        go_simp
      simp only [Act.put]
      refine wpAnyH_take (i := 4) (v := .pointer (some ⟨w.heap.size + 1, 2, none⟩)) rfl (by kernel_rfl) (by kernel_rfl) (by kernel_rfl) (fun _ _ _ h => h) (Or.inl ⟨by rfl, ?_⟩) (by assumption) ?_
      · intro w hSw
        try dsimp only at hSw
        go_simp
      simp only [Act.put]
      refine wpAnyH_take (i := 5) (v := .int .i64 i.b) rfl (by kernel_rfl) (by kernel_rfl) (by kernel_rfl) (fun _ _ _ h => h) (Or.inl ⟨by rfl, ?_⟩) (by assumption) ?_
      · intro w hSw
        try dsimp only at hSw
        go_simp
      simp only [Act.put]
      refine wpAnyH_take (i := 6) (v := .pointer (some ⟨w.heap.size + 1, 3, none⟩)) rfl (by kernel_rfl) (by kernel_rfl) (by kernel_rfl) (fun _ _ _ h => h) (Or.inl ⟨by rfl, ?_⟩) (by assumption) ?_
      · intro w hSw
        try dsimp only at hSw
        go_simp
      simp only [Act.put]
      refine wpAnyH_take (i := 7) (v := .int .i64 i.c) rfl (by kernel_rfl) (by kernel_rfl) (by kernel_rfl) (fun _ _ _ h => h) (Or.inl ⟨by rfl, ?_⟩) (by assumption) ?_
      · intro w hSw
        try dsimp only at hSw
        go_simp
      simp only [Act.put]
      refine wpAnyH_take (i := 9) (v := .int .i64 j) rfl (by kernel_rfl) (by kernel_rfl) (by kernel_rfl) (fun _ _ _ h => h) (Or.inl ⟨by rfl, ?_⟩) (by assumption) ?_
      · intro w hSw
        try dsimp only at hSw
        go_simp
      simp only [Act.put]
      refine wpAnyH_ready (rs := [8]) (by kernel_rfl) (by simp) ?_
      refine AllReadyH.cons rfl (fun K hK => ?_) AllReadyH.nil
      go_simp
      refine hK.out _ _ hS1.out (fun hHeld => ?_)
      clear hK K
      try simp only [Act.put, List.setIfInBounds_toArray, List.set_cons_zero, List.set_cons_succ]
      refine wpAnyH_take (i := 10) (v := .pointer (some ⟨wr.heap.size, j, none⟩)) rfl (by kernel_rfl) (by kernel_rfl) (by kernel_rfl) (fun _ _ _ h => h) (Or.inl ⟨by rfl, ?_⟩) (by assumption) ?_
      · intro w hSw
        try dsimp only at hSw
        go_simp
      simp only [Act.put, List.setIfInBounds_toArray]
      refine wpAnyH_ready (rs := [11]) (by kernel_rfl) (by simp) ?_
      refine AllReadyH.cons rfl (fun K hK => ?_) AllReadyH.nil
      go_simp
      refine hK.out _ _ hS1.out (fun hHeld => ?_)
      clear hK K
      try simp only [Act.put, List.setIfInBounds_toArray, List.set_cons_zero, List.set_cons_succ]
      refine wpAnyH_ready (rs := [12]) (by kernel_rfl) (by simp) ?_
      refine AllReadyH.cons rfl (fun K hK => ?_) AllReadyH.nil
      go_simp
      refine (fits_c _ gl nf size hkn7 an).mono ?_
      rintro e w2 ⟨rfl, hu2⟩
      have HU2 := Lib.hid (((HUR.out.alloc (.cells #[.int .i64 i.a, .int .i64 i.b, .int .i64 i.c] 3)).drew).trans hu2 (fun _ e => .inl e))
      have hS2 := Lib.hid (HS.out _ HU2.out)
      clear hu2 hnew
      by_cases hp : partOK gl nf size kn an
      · have hpd : decide (partOK gl nf size kn an) = true := by simpa using hp
        rw [hpd]
        have HP := Lib.hid hp
        clear hp hpd
        go_wp2_with fail
        refine hK.out _ _ hS2.out (fun hHeld => ?_)
        clear hK K
        try simp only [Act.put, List.setIfInBounds_toArray, List.set_cons_zero, List.set_cons_succ]
        refine wpAnyH_ready (rs := [13]) (by kernel_rfl) (by simp) ?_
        refine AllReadyH.cons rfl (fun K hK => ?_) AllReadyH.nil
        go_simp
        refine hK.out _ _ hS2.out (fun hHeld => ?_)
        clear hK K
        try simp only [Act.put, List.setIfInBounds_toArray, List.set_cons_zero, List.set_cons_succ]
        refine wpAnyH_done (by kernel_rfl) ?_ _
        go_wp2_with fail
        go_roundw
        case rel =>
          refine ⟨j + 1, by omega, by go_num, HU2.out, fun t ht => ?_⟩
          by_cases e : t = j
          · subst e
            rw [← HKN.out, ← HAN.out]
            exact HP.out
          · exact HB.out t (by omega)
        case measure => simp [intOf]; omega
      · have hpd : decide (partOK gl nf size kn an) = false := by simpa using hp
        rw [hpd]
        have HP := Lib.hid hp
        clear hp hpd
        go_wp2_with fail
        refine hK.out _ _ hS2.out (fun hHeld => ?_)
        clear hK K
        try simp only [Act.put, List.setIfInBounds_toArray, List.set_cons_zero, List.set_cons_succ]
        refine wpAnyH_ready (rs := [13]) (by kernel_rfl) (by simp) ?_
        refine AllReadyH.cons rfl (fun K hK => ?_) AllReadyH.nil
        go_simp
        refine hK.out _ _ hS2.out (fun hHeld => ?_)
        clear hK K
        try simp only [Act.put, List.setIfInBounds_toArray, List.set_cons_zero, List.set_cons_succ]
        refine wpAnyH_done (by kernel_rfl) ?_ _
        go_wp2_with fail
        go_ret
        refine ⟨?_, HWW.out.trans HU2.out (fun _ e => .inl e)⟩
        have hst := wrong_stop (gl := gl) (nf := nf) (size := size) H.out hlt HB.out (by rw [← HKN.out, ← HAN.out]; exact HP.out)
        rw [hst]
        rfl
    · have hj3 : j = 3 := by omega
      subst hj3
      go_wp2_with fail
      go_ret
      exact ⟨by rw [wrong_none H.out HB.out]; rfl, HWW.out.trans HUR.out (fun _ e => .inl e)⟩
theorem wrong_c (w : World) (gl nf size : Int) (i : In) :
    Calls Try.prog 52 #[.agg #[.int .i64 gl, .int .i64 nf, .int .i64 size], i.v] w fun e w' => e = .returned (.int .i64 (wrongI gl nf size i)) ∧ Upd (fun _ => False) w w' := by
  by_cases h : 0 ≤ i.op ∧ i.op < 18
  · exact wrong_yes w gl nf size i h
  · exact wrong_op w gl nf size i h
theorem wrongI_iff (gl nf size : Int) (i : In) : wrongI gl nf size i < 0 ↔ instOK gl nf size i := by
  unfold wrongI instOK
  have e0 : partOK gl nf size (kindN i 0) (argN i 0) = partOK gl nf size (kindsOf i).1 i.a := rfl
  have e1 : partOK gl nf size (kindN i 1) (argN i 1) = partOK gl nf size (kindsOf i).2.1 i.b := rfl
  have e2 : partOK gl nf size (kindN i 2) (argN i 2) = partOK gl nf size (kindsOf i).2.2 i.c := rfl
  by_cases h : 0 ≤ i.op ∧ i.op < 18
  · rw [if_neg (by simpa using h)]
    by_cases h0 : partOK gl nf size (kindN i 0) (argN i 0)
    · rw [if_neg (by simpa using h0)]
      by_cases h1 : partOK gl nf size (kindN i 1) (argN i 1)
      · rw [if_neg (by simpa using h1)]
        by_cases h2 : partOK gl nf size (kindN i 2) (argN i 2)
        · rw [if_neg (by simpa using h2)]
          exact ⟨fun _ => ⟨h, h0, h1, h2⟩, fun _ => by decide⟩
        · rw [if_pos h2]
          exact ⟨fun c => by omega, fun c => absurd c.2.2.2 h2⟩
      · rw [if_pos h1]
        exact ⟨fun c => by omega, fun c => absurd c.2.2.1 h1⟩
    · rw [if_pos h0]
      exact ⟨fun c => by omega, fun c => absurd c.2.1 h0⟩
  · rw [if_pos h]
    exact ⟨fun c => by omega, fun c => absurd c.1 h⟩
end Go.Proofs.Ytndldoamadmphaa
namespace Go.Proofs.Ytndldoamadmphaa
open Go.RowKit
def codeOK (globs : Int) (nf : Nat) (l : List In) : Prop := (1 ≤ l.length ∧ l.length ≤ 64) ∧ ∀ i ∈ l, instOK globs nf l.length i
def progOK (globs : Int) (funcs : List (List In)) : Prop := (1 ≤ funcs.length ∧ funcs.length ≤ 16) ∧ (0 ≤ globs ∧ globs ≤ 32) ∧ ∀ l ∈ funcs, codeOK globs funcs.length l
def MayPost (globs : Int) (funcs : List (List In)) (w : World) (e : Ending) (w' : World) : Prop := ∃ r : Int, e = .returned (.int .i64 r) ∧ (r = 0 ↔ progOK globs funcs) ∧ Upd (fun _ => False) w w'
/-- The first j functions are of a length that may be; all their instructions, and the first t of the next one. -/
def lensOK (funcs : List (List In)) (j : Nat) : Prop := ∀ t, t < j → 1 ≤ (funcs.getD t []).length ∧ (funcs.getD t []).length ≤ 64
def instsOK (globs : Int) (funcs : List (List In)) (j : Nat) : Prop := ∀ t, t < j → ∀ i ∈ funcs.getD t [], instOK globs funcs.length (funcs.getD t []).length i
def firstOK (globs : Int) (nf : Nat) (l : List In) (t : Nat) : Prop := ∀ s, s < t → instOK globs nf l.length (l.getD s In0)
section
variable {w : World} {c : Col} {pv : Value} {globs : Int} {funcs : List (List In)}
theorem ProgAt.len_ (h : ProgAt w c pv funcs) : ∃ A cap, pv = .slice A funcs.length cap ∧ funcs.length ≤ 9223372036854775807 := by
  obtain ⟨A, cap, hv, hm, _⟩ := h
  unfold maxLen at hm
  exact ⟨A, cap, hv, by omega⟩
set_option maxRecDepth 100000 in
set_option maxHeartbeats 2000000 in
theorem may_head (h : ProgAt w c pv funcs) (hn : ¬ ((1 ≤ funcs.length ∧ funcs.length ≤ 16) ∧ (0 ≤ globs ∧ globs ≤ 32))) :
    Calls Try.prog 34 #[.agg #[.int .i64 globs, pv]] w (MayPost globs funcs w) := by
  have hf : ∀ r : Int, r ≠ 0 → (r = 0 ↔ progOK globs funcs) := fun r hr => ⟨fun e => absurd e hr, fun e => absurd ⟨e.1, e.2.1⟩ hn⟩
  obtain ⟨A, cap, rfl, hl⟩ := h.len_
  obtain ⟨N, hN⟩ : ∃ N, N = funcs.length := ⟨_, rfl⟩
  have hfin : ∀ o1, Upd (fun _ => False) w (w.alloc o1) := fun o1 => (Upd.refl _ _).alloc _
  have HF := Lib.hid hf
  have HU := Lib.hid hfin
  rw [← hN] at hn hl ⊢
  clear h hf hfin hN
  by_cases h1 : N < 1
  · obtain rfl : N = 0 := by omega
    clear hn hl h1
    go_enter Try.func34, Try.ntmps34
    go_wp2_with fail
    go_ret
    exact ⟨1, rfl, HF.out 1 (by decide), HU.out _⟩
  by_cases h2 : 16 < N
  · have h1I : (1 : Int) ≤ N := by omega
    have h2I : (16 : Int) < N := by omega
    clear hn h1 h2
    go_enter Try.func34, Try.ntmps34
    go_wp2_with fail
    go_ret
    exact ⟨1, rfl, HF.out 1 (by decide), HU.out _⟩
  by_cases h3 : globs < 0
  · have h1I : (1 : Int) ≤ N := by omega
    have h2I : (N : Int) ≤ 16 := by omega
    clear hn h1 h2
    go_enter Try.func34, Try.ntmps34
    go_wp2_with fail
    go_ret
    exact ⟨1, rfl, HF.out 1 (by decide), HU.out _⟩
  · have h4 : 32 < globs := by omega
    have h5 : 0 ≤ globs := by omega
    have h1I : (1 : Int) ≤ N := by omega
    have h2I : (N : Int) ≤ 16 := by omega
    clear hn h1 h2 h3
    go_enter Try.func34, Try.ntmps34
    go_wp2_with fail
    go_ret
    exact ⟨1, rfl, HF.out 1 (by decide), HU.out _⟩
/-- Where a function's text stands. -/
theorem ProgAt.at_ (h : ProgAt w c pv funcs) {j : Nat} (hj : j < funcs.length) : ∃ b off cap u, pv = .slice (some ⟨b, off, none⟩) funcs.length cap ∧ b < w.heap.size ∧ w.cell? ⟨b, off + j, none⟩ = some u ∧ CodeAt w c u (funcs.getD j []) := by
  obtain ⟨A, cap, hv, _, hb⟩ := h
  obtain ⟨b, off, rfl, hlt, h8, hx⟩ := hb (by omega)
  obtain ⟨u, h1, h2⟩ := hx j (funcs.getD j []) (by simp [List.getD, hj])
  exact ⟨b, off, cap, u, hv, hlt, h1, h2⟩
theorem CodeAt.len_ {u : Value} {l : List In} (h : CodeAt w c u l) : ∃ A cap, u = .slice A l.length cap ∧ l.length ≤ 9223372036854775807 := by
  obtain ⟨A, cap, hv, hm, _⟩ := h
  unfold maxLen at hm
  exact ⟨A, cap, hv, by omega⟩
theorem CodeAt.at_ {u : Value} {l : List In} (h : CodeAt w c u l) {j : Nat} (hj : j < l.length) : ∃ b off cap, u = .slice (some ⟨b, off, none⟩) l.length cap ∧ b < w.heap.size ∧
    w.cell? ⟨b, off + j * 4, none⟩ = some (.int .i64 (l.getD j In0).op) ∧ w.cell? ⟨b, off + j * 4 + 1, none⟩ = some (.int .i64 (l.getD j In0).a) ∧ w.cell? ⟨b, off + j * 4 + 2, none⟩ = some (.int .i64 (l.getD j In0).b) ∧ w.cell? ⟨b, off + j * 4 + 3, none⟩ = some (.int .i64 (l.getD j In0).c) := by
  obtain ⟨A, cap, hv, _, hb⟩ := h
  obtain ⟨b, off, rfl, hlt, _, hx⟩ := hb (by omega)
  exact ⟨b, off, cap, hv, hlt, hx j (l.getD j In0) (by simp [List.getD, hj])⟩
set_option maxRecDepth 100000 in
set_option maxHeartbeats 2000000 in
theorem may_body (h : ProgAt w c pv funcs) (h1 : 1 ≤ funcs.length) (h2 : funcs.length ≤ 16) (h3 : 0 ≤ globs) (h4 : globs ≤ 32) :
    Calls Try.prog 34 #[.agg #[.int .i64 globs, pv]] w (MayPost globs funcs w) := by
  have hl := h.len_.choose_spec.choose_spec.2
  obtain ⟨b, off, cap, u0, hpv, hblt, _, _⟩ := h.at_ (j := 0) (by omega)
  have H := Lib.hid h
  have HPV := Lib.hid hpv
  have h1I : (1 : Int) ≤ funcs.length := by omega
  have h2I : (funcs.length : Int) ≤ 16 := by omega
  have d1 : decide ((funcs.length : Int) < 1) = false := by simp; omega
  have d2 : decide ((16 : Int) < (funcs.length : Int)) = false := by simp; omega
  have d3 : decide (globs < 0) = false := by simp; omega
  have d4 : decide (32 < globs) = false := by simp; omega
  obtain ⟨W, hW⟩ : ∃ W, W = w.alloc (.cells #[.int .i64 globs, .slice (some ⟨b, off, none⟩) funcs.length cap] 24) := ⟨_, rfl⟩
  have bp : Blk W w.heap.size 24 #[.int .i64 globs, .slice (some ⟨b, off, none⟩) funcs.length cap] := by rw [hW]; exact Blk.new _ _ _
  have hwW : Upd (fun _ => False) w W := by rw [hW]; exact (Upd.refl _ _).alloc _
  rw [hpv]
  have HBP := Lib.hid bp
  have HWW := Lib.hid hwW
  have HH : Hid (ProgAt W c pv funcs) := Lib.hid (h.frame hwW (Keep.refl _ _) (fun _ e => e.elim))
  clear h hpv bp hwW
  go_enter Try.func34, Try.ntmps34
  go_wp2_with fail
  rw [← hW]
  clear hW
  go_loop [33] (fun v => ∃ j : Nat, j ≤ funcs.length ∧ v = .int .i64 j ∧ lensOK funcs j) (fun v => funcs.length - (intOf v).toNat)
  case atStart => exact ⟨0, by omega, rfl, fun t ht => absurd ht (by omega)⟩
  case round =>
    obtain ⟨j, hj, rfl, hb⟩ := hrel
    have HB := Lib.hid hb
    clear hb
    by_cases hlt : j < funcs.length
    · obtain ⟨b', off', cap', u, e1, hbl, hcu, hcode⟩ := HH.out.at_ hlt
      rw [HPV.out] at e1
      injection e1 with eA _ eC
      injection eA with eA
      injection eA with eb eo
      subst eb
      subst eo
      subst eC
      obtain ⟨A2, cap2, hu, hl2⟩ := hcode.len_
      obtain ⟨N, hN⟩ : ∃ N, N = (funcs.getD j []).length := ⟨_, rfl⟩
      rw [← hN] at hu hl2
      rw [hu] at hcu
      have hltI : (j : Int) < (funcs.length : Int) := by omega
      have HN := Lib.hid hN
      have hno : ¬ (1 ≤ N ∧ N ≤ 64) → ¬ progOK globs funcs := fun hc hp => hc (by rw [hN]; exact (hp.2.2 (funcs.getD j []) (by rw [List.getD, List.getElem?_eq_getElem hlt]; exact List.getElem_mem hlt)).1)
      have HNO := Lib.hid hno
      clear hcode hu hN hno
      by_cases hn1 : N < 1
      · obtain rfl : N = 0 := by omega
        clear hn1 hl2
        go_wp2_with fail
        go_ret
        exact ⟨1, rfl, ⟨fun e => absurd e (by decide), fun e => absurd e (HNO.out (by omega))⟩, HWW.out⟩
      by_cases hn2 : 64 < N
      · have hn1I : (1 : Int) ≤ N := by omega
        have hn2I : (64 : Int) < N := by omega
        clear hn1 hl2
        go_wp2_with fail
        go_ret
        exact ⟨1, rfl, ⟨fun e => absurd e (by decide), fun e => absurd e (HNO.out (by omega))⟩, HWW.out⟩
      have hn1I : (1 : Int) ≤ N := by omega
      have hn2I : (N : Int) ≤ 64 := by omega
      go_wp2_with fail
      go_round
      case rel =>
        refine ⟨j + 1, by omega, by go_num, fun t ht => ?_⟩
        by_cases e : t = j
        · subst e
          rw [← HN.out]
          omega
        · exact HB.out t (by omega)
      case measure => simp [intOf]; omega
    · obtain rfl : j = funcs.length := by omega
      have HL := Lib.hid HB.out
      have hltI : ¬ (funcs.length : Int) < (funcs.length : Int) := by omega
      have p0 : W.cell? ⟨w.heap.size, 0, none⟩ = some (.int .i64 globs) := HBP.out.cell 0
      have p1 : W.cell? ⟨w.heap.size, 1, none⟩ = some (.slice (some ⟨b, off, none⟩) funcs.length cap) := HBP.out.cell 1
      have lp := HBP.out.lt
      clear HB hltI hlt
      go_wp2_with fail
      go_loopw [5, 49] (fun n v wr => ∃ j : Nat, j ≤ funcs.length ∧ v = .int .i64 j ∧ ∃ nn : Int, n = .int .i64 nn ∧ 1 ≤ nn ∧ nn ≤ 1 + 64 * j ∧ Upd (fun _ => False) W wr ∧ instsOK globs funcs j) (fun _ v _ => funcs.length - (intOf v).toNat)
      case atStart => exact ⟨0, by omega, rfl, 1, rfl, by omega, by omega, Upd.refl _ _, fun t ht => absurd ht (by omega)⟩
      case round =>
        obtain ⟨j, hj, rfl, nn, rfl, hn1, hn2, hur, hb⟩ := hrel
        have HUR := Lib.hid hur
        have HB := Lib.hid hb
        clear hur hb p0 p1 lp
        by_cases hlt : j < funcs.length
        · obtain ⟨b', off', cap', u, e1, hbl, hcu, hcode⟩ := (HH.out.frame HUR.out (Keep.refl _ _) (fun _ e => e.elim)).at_ hlt
          rw [HPV.out] at e1
          injection e1 with eA _ eC
          injection eA with eA
          injection eA with eb eo
          subst eb
          subst eo
          subst eC
          obtain ⟨hN1, hN2⟩ := HL.out j hlt
          obtain ⟨l, hl'⟩ : ∃ l, l = funcs.getD j [] := ⟨_, rfl⟩
          rw [← hl'] at hcode hN1 hN2
          obtain ⟨b2, off2, cap2, hu, _, _⟩ := hcode.at_ (j := 0) (by omega)
          rw [hu] at hcu
          have hltI : (j : Int) < (funcs.length : Int) := by omega
          have hN1I : (1 : Int) ≤ l.length := by omega
          have hN2I : (l.length : Int) ≤ 64 := by omega
          have HC := Lib.hid hcode
          have HUU := Lib.hid hu
          have HLL := Lib.hid hl'
          clear hcode hu hl'
          go_wp2_with fail
          obtain ⟨wo, hwo⟩ : ∃ wo : World, wo = wr := ⟨_, rfl⟩
          rw [← hwo] at hbl hcu HUR HC ⊢
          clear hwo
          go_loopw [5, 55] (fun n v ws => ∃ t : Nat, t ≤ l.length ∧ v = .int .i64 t ∧ ∃ mm : Int, n = .int .i64 mm ∧ 1 ≤ mm ∧ mm ≤ 1 + 64 * j + t ∧ Upd (fun _ => False) wo ws ∧ firstOK globs funcs.length l t) (fun _ v _ => l.length - (intOf v).toNat)
          case atStart => exact ⟨0, by omega, rfl, nn, rfl, by omega, by omega, Upd.refl _ _, fun t ht => absurd ht (by omega)⟩
          case round =>
            obtain ⟨t, ht, rfl, mm, rfl, hm1, hm2, hus, hf⟩ := hrel
            have HUT := Lib.hid hus
            have HUS := Lib.hid (HUR.out.trans hus (fun _ e => .inl e))
            have HFI := Lib.hid hf
            clear hus hf hbl hcu
            by_cases htl : t < l.length
            · have hcodeW : CodeAt wr c u l := HC.out.frame HUT.out (Keep.refl _ _) (fun _ e => e.elim)
              obtain ⟨b3, off3, cap3, e1, hb3l, i0, i1, i2, i3⟩ := hcodeW.at_ htl
              rw [HUU.out] at e1
              injection e1 with eA _ eC
              injection eA with eA
              injection eA with eb eo
              subst eb
              subst eo
              subst eC
              obtain ⟨i, hi⟩ : ∃ i, i = l.getD t In0 := ⟨_, rfl⟩
              rw [← hi] at i0 i1 i2 i3
              have p0 : wr.cell? ⟨w.heap.size, 0, none⟩ = some (.int .i64 globs) := (HBP.out.upd HUS.out (fun e => e)).cell 0
              have p1 := (HBP.out.upd HUS.out (fun e => e)).cell 1
              have lp := (HBP.out.upd HUS.out (fun e => e)).lt
              have htI : (t : Int) < (l.length : Int) := by omega
              have HII := Lib.hid hi
              obtain ⟨r, hr⟩ : ∃ r, r = wrongI globs funcs.length l.length i := ⟨_, rfl⟩
              have hri : r < 0 ↔ instOK globs funcs.length l.length i := by rw [hr]; exact wrongI_iff _ _ _ _
              have Hri := Lib.hid hri
              have Hw := fun w => wrong_c w globs funcs.length l.length i
              rw [← hr] at Hw
              have HW := Lib.hid Hw
              clear hi hr hri Hw hcodeW
              unfold In.v at HW
              have HUA := Lib.hid (HUS.out.alloc (.cells #[.int .i64 i.op, .int .i64 i.a, .int .i64 i.b, .int .i64 i.c] 40))
              by_cases hrn : r < 0
              · have hge : ¬ 0 ≤ r := by omega
                go_wp2_with (go_at_call 52; refine (HW.out _).mono ?_; rintro e w2 ⟨rfl, hu2⟩)
                go_roundw
                case rel =>
                  refine ⟨t + 1, by omega, by go_num, mm + 1, rfl, by omega, by omega, (HUT.out.alloc _).trans hu2 (fun _ e => .inl e), fun s hs => ?_⟩
                  by_cases e : s = t
                  · subst e
                    rw [← HII.out]
                    exact Hri.out.1 hrn
                  · exact HFI.out s (by omega)
                case measure => simp [intOf]; omega
              · have hge : 0 ≤ r := by omega
                go_wp2_with (go_at_call 52; refine (HW.out _).mono ?_; rintro e w2 ⟨rfl, hu2⟩)
                go_ret
                refine ⟨mm + 1, rfl, ⟨fun e => by omega, fun hp => ?_⟩, HWW.out.trans (HUA.out.trans hu2 (fun _ e => .inl e)) (fun _ e => .inl e)⟩
                have hin : l ∈ funcs := by rw [HLL.out, List.getD, List.getElem?_eq_getElem hlt]; exact List.getElem_mem hlt
                have hii : i ∈ l := by rw [HII.out, List.getD, List.getElem?_eq_getElem htl]; exact List.getElem_mem htl
                exact absurd (Hri.out.2 ((hp.2.2 l hin).2 i hii)) (by omega)
            · obtain rfl : t = l.length := by omega
              clear htl
              go_wp2_with fail
              go_roundw
              case rel =>
                  refine ⟨j + 1, by omega, by go_num, mm, rfl, by omega, by omega, HUS.out, fun t ht => ?_⟩
                  by_cases e : t = j
                  · subst e
                    rw [← HLL.out]
                    intro i hi
                    obtain ⟨s, hs, rfl⟩ := List.getElem_of_mem hi
                    have := HFI.out s hs
                    rw [List.getD, List.getElem?_eq_getElem hs] at this
                    exact this
                  · exact HB.out t (by omega)
              case measure => simp [intOf]; omega
        · obtain rfl : j = funcs.length := by omega
          clear hlt
          go_wp2_with fail
          go_ret
          refine ⟨0, rfl, ⟨fun _ => ⟨⟨h1, h2⟩, ⟨h3, h4⟩, fun l hl' => ?_⟩, fun _ => rfl⟩, HWW.out.trans HUR.out (fun _ e => .inl e)⟩
          obtain ⟨t, ht, rfl⟩ := List.getElem_of_mem hl'
          have e1 : funcs.getD t [] = funcs[t] := by simp [List.getD, ht]
          have := HL.out t ht
          have h5 := HB.out t ht
          rw [e1] at this h5
          exact ⟨this, h5⟩
theorem maycode_c (h : ProgAt w c pv funcs) : Calls Try.prog 34 #[.agg #[.int .i64 globs, pv]] w (MayPost globs funcs w) := by
  by_cases hn : (1 ≤ funcs.length ∧ funcs.length ≤ 16) ∧ (0 ≤ globs ∧ globs ≤ 32)
  · exact may_body h hn.1.1 hn.1.2 hn.2.1 hn.2.2
  · exact may_head h hn
end
end Go.Proofs.Ytndldoamadmphaa
