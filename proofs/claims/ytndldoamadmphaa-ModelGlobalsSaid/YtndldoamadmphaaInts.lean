/- treadmillref1.Ints on two lists that are the same. -/
import Derived.Test.YtndldoamadmphaaRead
import Derived.Test.YtndldoamadmphaaRegion
namespace Go.Proofs.Ytndldoamadmphaa
open Go.RowKit

theorem Row.rdf {w : World} {e : TypeId} {row : Option Nat} {v : Value} {l : List Int} (h : Row w e row v (l.map (Value.int .i64))) :
    ∃ (A : Option Addr) (cap : Nat), v = .slice A l.length cap ∧ RdF w A l.length 1 (fun i _ => l.getD i 0) := by
  have hf := h.fits
  rw [List.length_map] at hf
  rcases h.form with ⟨h1, h2, _⟩ | ⟨g, cap, h1, _, _, _, hg, hc, _⟩
  · have h0 : l = [] := by simpa using h2
    subst h0
    exact ⟨none, 0, h1, hf, fun h => by simp at h⟩
  · rw [List.length_map] at h1
    refine ⟨_, cap, h1, hf, fun _ => ⟨g, 0, rfl, hg, fun i hi j hj => ?_⟩⟩
    have hj0 : j = 0 := by omega
    subst hj0
    have := hc i (.int .i64 (l.getD i 0)) (by simp [List.getD, hi])
    simpa using this

theorem RdF.drewN {w : World} {A : Option Addr} {n k : Nat} {f : Nat → Nat → Int} (h : RdF w A n k f) (m : Nat) : RdF (w.drewN m) A n k f := h
set_option maxRecDepth 100000 in
set_option maxHeartbeats 1000000 in
theorem ints_c {w : World} {A B : Option Addr} {n c d : Nat} {f : Nat → Nat → Int} (h1 : RdF w A n 1 f) (h2 : RdF w B n 1 f) :
    Calls Try.prog 21 #[.slice A n c, .slice B n d] w fun e w' => e = .returned (.bool true) ∧ ∃ m, w' = w.drewN m := by
  have hm := h1.1
  unfold maxLen at hm
  have H1 := Lib.hid h1
  have H2 := Lib.hid h2
  clear h1 h2
  go_enter Try.func21, Try.ntmps21
  go_wp2_with fail
  go_loopw [5] (fun i wr => ∃ k : Nat, k ≤ n ∧ i = .int .i64 k ∧ ∃ m, wr = w.drewN m) (fun i _ => n - (intOf i).toNat)
  case atStart => exact ⟨0, by omega, rfl, 0, rfl⟩
  case round =>
    obtain ⟨k, hk, rfl, m, rfl⟩ := hrel
    by_cases hlt : k < n
    · obtain ⟨b, o, rfl, _, hc⟩ := H1.out.2 (by omega)
      obtain ⟨b', o', rfl, _, hc'⟩ := H2.out.2 (by omega)
      have hcell : w.cell? ⟨b, o + k, none⟩ = some (.int .i64 (f k 0)) := by
        have := hc k hlt 0 (by omega)
        rw [Nat.mul_one, Nat.add_zero] at this
        exact this
      have hcell' : w.cell? ⟨b', o' + k, none⟩ = some (.int .i64 (f k 0)) := by
        have := hc' k hlt 0 (by omega)
        rw [Nat.mul_one, Nat.add_zero] at this
        exact this
      clear hc hc'
      go_wp2_with fail
      refine wp_still (by kernel_rfl) (by kernel_rfl) ?_
      repeat still_step
      refine wpStill_nil ?_
      go_wp2_with fail
      go_roundw
      case rel => exact ⟨k + 1, by omega, by go_num, m + 1, rfl⟩
      case measure => simp [intOf]; omega
    · go_wp2_with fail
      go_ret
      exact ⟨rfl, m, rfl⟩
end Go.Proofs.Ytndldoamadmphaa
