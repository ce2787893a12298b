/- Contracts of package timer: the heap's own methods. -/
import Derived.Test.YtndldoamadmphaaTimer
namespace Go.Proofs.Ytndldoamadmphaa
open Go.RowKit

theorem RowN.set_ {w : World} {e : TypeId} {size : Nat} {v : Value} {n : Nat} {xs : List Value} {g : Nat} (h : RowN w e size (some g) v n xs) (i : Nat) (u : Value) : RowN (w.setCell ⟨g, i, none⟩ u) e size (some g) v n (xs.set i u) := by
  rcases h.1.2 with ⟨hv, h0⟩ | ⟨g', cap, cur, hv, hg, hh, hc, hm, hs, ht⟩
  · have := h.2; rw [hv] at this; cases this
  · have h2 := h.2
    rw [hv] at h2
    simp [Value.ownBlock] at h2
    subst h2
    have hb : Blk w g' e cur := hh
    refine ⟨⟨by rw [List.length_set]; exact h.1.1, .inr ⟨g', cap, cur.setIfInBounds i u, hv, hg, hb.set_ i u, hc, hm, by simpa using hs, ?_⟩⟩, h.2⟩
    rw [Array.toList_setIfInBounds, List.take_set, ht]
theorem cells3_set (l : List Sl) (i : Nat) (s : Sl) : cells3 (l.set i s) = (((cells3 l).set (i * 3) (.int .i64 s.when)).set (i * 3 + 1) (.int .i64 s.g)).set (i * 3 + 2) (.int .i64 s.seq) := by
  induction l generalizing i with
  | nil => rfl
  | cons x l ih =>
    cases i with
    | zero => rfl
    | succ i =>
      have e (y : Sl) (k : List Sl) : cells3 (y :: k) = [.int .i64 y.when, .int .i64 y.g, .int .i64 y.seq] ++ cells3 k := rfl
      rw [List.set_cons_succ, e, ih, e]
      have e1 : (i + 1) * 3 = i * 3 + 3 := by omega
      have e2 : i * 3 + 3 + 1 = i * 3 + 1 + 3 := by omega
      have e3 : i * 3 + 3 + 2 = i * 3 + 2 + 3 := by omega
      rw [e1, e2, e3]
      rfl
def put3 (w : World) (g i : Nat) (s : Sl) : World := ((w.setCell ⟨g, i * 3, none⟩ (.int .i64 s.when)).setCell ⟨g, i * 3 + 1, none⟩ (.int .i64 s.g)).setCell ⟨g, i * 3 + 2, none⟩ (.int .i64 s.seq)
theorem SlAt.put {w : World} {g : Nat} {v : Value} {l : List Sl} (h : SlAt w (some g) v l) (i : Nat) (s : Sl) : SlAt (put3 w g i s) (some g) v (l.set i s) := by
  unfold SlAt put3
  rw [List.length_set, cells3_set]
  exact ((RowN.set_ h _ _).set_ _ _).set_ _ _
theorem Upd.put3 {S : Nat → Prop} {a w : World} (h : Upd S a w) {g : Nat} (hg : S g) (i : Nat) (s : Sl) : Upd S a (put3 w g i s) :=
  ((h.setCell (.inl hg) _).setCell (.inl hg) _).setCell (.inl hg) _

theorem SlAt.drew {w : World} {g : Option Nat} {v : Value} {l : List Sl} (h : SlAt w g v l) : SlAt w.drew g v l := h

set_option maxRecDepth 100000 in
set_option maxHeartbeats 1000000 in
theorem swap_c {w : World} {g cap : Nat} {l : List Sl} (h : SlAt w (some g) (.slice (some ⟨g, 0, none⟩) l.length cap) l) {i j : Nat} {a b : Sl} (hi : l[i]? = some a) (hj : l[j]? = some b) :
    Calls Try.prog 108 #[.slice (some ⟨g, 0, none⟩) l.length cap, .int .i64 i, .int .i64 j] w fun e w' => e = .returned (.tuple #[]) ∧ SlAt w' (some g) (.slice (some ⟨g, 0, none⟩) l.length cap) ((l.set i b).set j a) ∧ Upd (fun k => k = g) w w' := by
  obtain ⟨g', cap', hv, _, a0, a1, a2, hf, _⟩ := h.cells hi
  obtain ⟨g'', cap'', hv', _, b0, b1, b2, _, _⟩ := h.cells hj
  injection hv with e1 _ e2
  injection e1 with e1
  injection e1 with e1
  subst e1 e2
  injection hv' with e1 _ e2
  injection e1 with e1
  injection e1 with e1
  subst e1 e2
  have hil := (List.getElem?_eq_some_iff.1 hi).1
  have hjl := (List.getElem?_eq_some_iff.1 hj).1
  have hilI : (i : Int) < (l.length : Int) := by omega
  have hjlI : (j : Int) < (l.length : Int) := by omega
  have f0 := hf (i * 3)
  have f1 := hf (i * 3 + 1)
  have f2 := hf (i * 3 + 2)
  have k0 := hf (j * 3)
  have k1 := hf (j * 3 + 1)
  have k2 := hf (j * 3 + 2)
  have H := Lib.hid h
  have Hi := Lib.hid hi
  have Hj := Lib.hid hj
  clear hi hj h hf
  by_cases hij : i = j
  · subst hij
    have hab : a = b := Option.some.inj (Hi.out.symm.trans Hj.out)
    subst hab
    go_enter Try.func108, Try.ntmps108
    go_wp2_with fail
    go_region
    go_end0
    have hu : Upd (fun k => k = g) w (put3 (put3 w g i a) g i a).drew := (Upd.put3 (S := fun k => k = g) (Upd.put3 (S := fun k => k = g) (Upd.refl _ _) rfl i a) rfl i a).drew
    have hs := (((H.out).put i a).put i a).drew
    unfold put3 at hu hs
    exact ⟨rfl, hs, hu⟩
  · have n0 : i * 3 ≠ j * 3 := by omega
    have n1 : i * 3 + 1 ≠ j * 3 + 1 := by omega
    have n2 : i * 3 + 2 ≠ j * 3 + 2 := by omega
    have n3 : j * 3 ≠ i * 3 := by omega
    have n4 : j * 3 + 1 ≠ i * 3 + 1 := by omega
    have n5 : j * 3 + 2 ≠ i * 3 + 2 := by omega
    have n6 : j ≠ i := by omega
    go_enter Try.func108, Try.ntmps108
    go_wp2_with fail
    go_region
    go_end0
    have hu : Upd (fun k => k = g) w (put3 (put3 w g i b) g j a).drew := (Upd.put3 (S := fun k => k = g) (Upd.put3 (S := fun k => k = g) (Upd.refl _ _) rfl i b) rfl j a).drew
    have hs := (((H.out).put i b).put j a).drew
    unfold put3 at hu hs
    exact ⟨rfl, hs, hu⟩
end Go.Proofs.Ytndldoamadmphaa
