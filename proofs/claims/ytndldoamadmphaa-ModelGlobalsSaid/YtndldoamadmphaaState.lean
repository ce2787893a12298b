/- Contracts of package state. -/
import Derived.Test.YtndldoamadmphaaLib
import Derived.Handy
namespace Go.Proofs.Ytndldoamadmphaa
open Go.RowKit

theorem Try.int_info : (Try.prog.info? 3).map (fun i => (i.zero, i.size, i.bytes)) = some (some (.int .i64 0), 1, 8) := by kernel_rfl

/-- which moves may be -/
def mayB (a b : Int) : Bool := (a == 1 && b == 2) || (a == 2 && (b == 1 || b == 3 || b == 4 || b == 5)) || (a == 3 && b == 1) || (a == 4 && b == 1)

def waysZ : Array Value := Array.replicate 36 (.bool false)
def waysA (k : Nat) : Array Value := ([13, 15, 16, 17].take k).foldl (fun a i => a.setIfInBounds i (.bool true)) (waysZ.setIfInBounds 8 (.bool true))
def waysF : Array Value := ((waysA 4).setIfInBounds 19 (.bool true)).setIfInBounds 25 (.bool true)
def waysV : Value := .agg waysF
def WaysAt (w wr : World) (k : Nat) : Prop :=
  Blk wr w.heap.size 113 waysZ ∧ Blk wr (w.heap.size + 1) 113 (waysA k) ∧ Blk wr (w.heap.size + 1 + 1) 3 #[.int .i64 1, .int .i64 3, .int .i64 4, .int .i64 5] ∧ Below w.heap.size w wr

set_option maxRecDepth 100000 in
set_option maxHeartbeats 1000000 in
theorem ways_c (w : World) : Calls Try.prog 77 #[] w fun e w' => e = .returned waysV ∧ Below w.heap.size w w' := by
  go_enter Try.func77, Try.ntmps77
  go_wp2
  go_loopw [8] (fun i wr => ∃ k : Nat, k ≤ 4 ∧ i = .int .i64 k ∧ WaysAt w wr k) (fun i _ => 4 - (intOf i).toNat)
  case atStart =>
    exact ⟨0, by omega, rfl, ((Blk.new w _ _).alloc _).alloc _, (Blk.new' _ _ _ (by simp)).alloc _, Blk.new' _ _ _ (by simp), (((Below.refl _ _).alloc (Nat.le_refl _) _).alloc (by simp) _).alloc (by simp; omega) _⟩
  case round =>
    obtain ⟨k, hk, rfl, hW⟩ := hrel
    match k, hk with
    | 0, _ =>
      have c0 : wr.cell? ⟨w.heap.size + 1 + 1, 0, none⟩ = some (.int .i64 1) := hW.2.2.1.cell 0
      have c1 : wr.cell? ⟨w.heap.size + 1, 13, none⟩ = some (.bool false) := hW.2.1.cell 13
      have f1 := hW.2.1.frozen 13
      go_wp2
      refine ⟨⟨1, by omega, rfl, hW.1.far (by simp) _, hW.2.1.set_ 13 _, hW.2.2.1.far (by simp) _, hW.2.2.2.setCell (by simp) _⟩, by simp [intOf]⟩
    | 1, _ =>
      have c0 : wr.cell? ⟨w.heap.size + 1 + 1, 1, none⟩ = some (.int .i64 3) := hW.2.2.1.cell 1
      have c1 : wr.cell? ⟨w.heap.size + 1, 15, none⟩ = some (.bool false) := hW.2.1.cell 15
      have f1 := hW.2.1.frozen 15
      go_wp2
      refine ⟨⟨2, by omega, rfl, hW.1.far (by simp) _, hW.2.1.set_ 15 _, hW.2.2.1.far (by simp) _, hW.2.2.2.setCell (by simp) _⟩, by simp [intOf]⟩
    | 2, _ =>
      have c0 : wr.cell? ⟨w.heap.size + 1 + 1, 2, none⟩ = some (.int .i64 4) := hW.2.2.1.cell 2
      have c1 : wr.cell? ⟨w.heap.size + 1, 16, none⟩ = some (.bool false) := hW.2.1.cell 16
      have f1 := hW.2.1.frozen 16
      go_wp2
      refine ⟨⟨3, by omega, rfl, hW.1.far (by simp) _, hW.2.1.set_ 16 _, hW.2.2.1.far (by simp) _, hW.2.2.2.setCell (by simp) _⟩, by simp [intOf]⟩
    | 3, _ =>
      have c0 : wr.cell? ⟨w.heap.size + 1 + 1, 3, none⟩ = some (.int .i64 5) := hW.2.2.1.cell 3
      have c1 : wr.cell? ⟨w.heap.size + 1, 17, none⟩ = some (.bool false) := hW.2.1.cell 17
      have f1 := hW.2.1.frozen 17
      go_wp2
      refine ⟨⟨4, by omega, rfl, hW.1.far (by simp) _, hW.2.1.set_ 17 _, hW.2.2.1.far (by simp) _, hW.2.2.2.setCell (by simp) _⟩, by simp [intOf]⟩
    | 4, _ =>
      have c1 : wr.cell? ⟨w.heap.size + 1, 19, none⟩ = some (.bool false) := hW.2.1.cell 19
      have c2 : wr.cell? ⟨w.heap.size + 1, 25, none⟩ = some (.bool false) := hW.2.1.cell 25
      have f1 := hW.2.1.frozen 19
      have f2 := hW.2.1.frozen 25
      have B1 : Blk ((wr.setCell { block := w.heap.size + 1, off := 19 } (Value.bool true)).setCell { block := w.heap.size + 1, off := 25 } (Value.bool true)) (w.heap.size + 1) 113 waysF := (hW.2.1.set_ 19 _).set_ 25 _
      have B0 : Blk ((wr.setCell { block := w.heap.size + 1, off := 19 } (Value.bool true)).setCell { block := w.heap.size + 1, off := 25 } (Value.bool true)) w.heap.size 113 waysZ := (hW.1.far (by simp) _).far (by simp) _
      have HB1 := Lib.hid B1
      have HB0 := Lib.hid B0
      clear B1 B0
      go_wp2_with (first
        | (with_reducible refine wpList_load_row rfl 113 (.tmp 1) rfl (w.heap.size + 1) rfl 113 waysF (0, 0) _ (Blk.out HB1.out) Try.underlying113 rfl (by kernel_rfl) ?_)
        | (with_reducible refine wpList_store_row rfl 113 (.tmp 0) (.tmp 20) rfl w.heap.size rfl waysF rfl 113 waysZ (Blk.out HB0.out) (by kernel_rfl) (by kernel_rfl) (by kernel_rfl) ?_))
      refine bodyPost_ret (results_cell_row rfl _ _ w.heap.size 113 waysF (0, 0) _ rfl (Blk.setRow HB0.out waysF) Try.underlying113 rfl (by kernel_rfl)) rfl ?_
      refine ⟨rfl, ?_⟩
      exact Upd.below ((((Upd.of_below hW.2.2.2).setCell (.inl (by simp)) _).setCell (.inl (by simp)) _).setRow (.inl (Nat.le_refl _)) _)

def rowV (f : Int) : Value := .agg (waysF.extract (f.toNat * 6) (f.toNat * 6 + 6))
theorem lt6 (k : Nat) (h : k < 6) : k = 0 ∨ k = 1 ∨ k = 2 ∨ k = 3 ∨ k = 4 ∨ k = 5 := by omega
theorem index_row (f : Int) (h0 : 0 ≤ f) (h1 : f < 6) (w : World) : (Instr.index 113 waysV (.int .i64 f)).run Try.prog w = .ok (rowV f) w := by
  obtain ⟨k, rfl⟩ := Int.eq_ofNat_of_zero_le h0
  rcases lt6 k (by omega) with rfl | rfl | rfl | rfl | rfl | rfl <;> kernel_rfl
theorem index_cell (f t : Int) (h0 : 0 ≤ f) (h1 : f < 6) (h2 : 0 ≤ t) (h3 : t < 6) (w : World) : (Instr.index 112 (rowV f) (.int .i64 t)).run Try.prog w = .ok (.bool (mayB f t)) w := by
  obtain ⟨k, rfl⟩ := Int.eq_ofNat_of_zero_le h0
  obtain ⟨m, rfl⟩ := Int.eq_ofNat_of_zero_le h2
  rcases lt6 k (by omega) with rfl | rfl | rfl | rfl | rfl | rfl <;> rcases lt6 m (by omega) with rfl | rfl | rfl | rfl | rfl | rfl <;> kernel_rfl
theorem mayB_out (f t : Int) (h : f < 0 ∨ 6 ≤ f ∨ t < 0 ∨ 6 ≤ t) : mayB f t = false := by
  unfold mayB
  have : ∀ (a b : Int), (a == b) = decide (a = b) := fun a b => by by_cases h : a = b <;> simp [h]
  simp only [this]
  rw [Bool.eq_false_iff]
  simp
  omega

set_option maxRecDepth 100000 in
theorem may_c (f t : Int) (w : World) : Calls Try.prog 54 #[.int .i64 f, .int .i64 t] w fun e w' => e = .returned (.bool (mayB f t)) ∧ Below w.heap.size w w' := by
  by_cases h : f < 0 ∨ 6 ≤ f ∨ t < 0 ∨ 6 ≤ t
  · have hm := Lib.hid (mayB_out f t h)
    by_cases h1 : f < 0
    · go_enter Try.func54, Try.ntmps54
      go_wp2
      go_ret
      exact ⟨by rw [hm.out]; rfl, Below.refl _ _⟩
    by_cases h2 : 6 ≤ f
    · go_enter Try.func54, Try.ntmps54
      go_wp2
      go_ret
      exact ⟨by rw [hm.out]; rfl, Below.refl _ _⟩
    by_cases h3 : t < 0
    · go_enter Try.func54, Try.ntmps54
      go_wp2
      go_ret
      exact ⟨by rw [hm.out]; rfl, Below.refl _ _⟩
    have h4 : 6 ≤ t := by omega
    go_enter Try.func54, Try.ntmps54
    go_wp2
    go_ret
    exact ⟨by rw [hm.out]; rfl, Below.refl _ _⟩
  · have h0 : 0 ≤ f := by omega
    have h1 : f < 6 := by omega
    have h2 : 0 ≤ t := by omega
    have h3 : t < 6 := by omega
    clear h
    have hi := index_row f h0 h1
    have hc := index_cell f t h0 h1 h2 h3
    go_enter Try.func54, Try.ntmps54
    go_wp2_with (go_at_call 77; refine (ways_c _).mono ?_; rintro e w1 ⟨rfl, hb⟩)
    go_ret
    exact ⟨rfl, hb⟩
end Go.Proofs.Ytndldoamadmphaa
