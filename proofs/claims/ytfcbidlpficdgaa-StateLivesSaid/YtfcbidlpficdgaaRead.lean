/- Arguments read out of memory: slices of integers, slices of structs of integers. -/
import Derived.Test.YtfcbidlpficdgaaLaw
import Derived.Deep.Slices
import Derived.Deep.Fields
namespace Go.Proofs.Ytfcbidlpficdgaa
open Go.ChangeShapes Go.WideShapes Go.ChangeAt Go.RowKit

/-- n elements of k integer cells each, from the address A on. -/
def RdF (w : World) (A : Option Addr) (n k : Nat) (f : Nat → Nat → Int) : Prop :=
  n ≤ maxLen ∧ (0 < n → ∃ b off, A = some ⟨b, off, none⟩ ∧ b < w.heap.size ∧ ∀ i, i < n → ∀ j, j < k → w.cell? ⟨b, off + (i * k + j), none⟩ = some (.int .i64 (f i j)))
theorem RdF.upd {w w' : World} {A : Option Addr} {n k : Nat} {f : Nat → Nat → Int} {S : Nat → Prop} (h : RdF w A n k f) (hu : Upd S w w') (hS : ∀ b, S b → w.heap.size ≤ b) : RdF w' A n k f := by
  refine ⟨h.1, fun hn => ?_⟩
  obtain ⟨b, off, hA, hb, hc⟩ := h.2 hn
  have hn : ¬ S b := fun e => by have := hS b e; omega
  exact ⟨b, off, hA, Nat.lt_of_lt_of_le hb hu.size, fun i hi j hj => by rw [hu.cell hb hn]; exact hc i hi j hj⟩

section
variable {H : Type} {enc : TypeId × Value → H} {P : Program} {w : World}
theorem spot_none {a : Addr} {v : Value} (h : w.cell? a = some v) : a.spot = none ∧ a.block < w.heap.size := by
  refine ⟨?_, block_lt_of_cell h⟩
  unfold World.cell? at h
  split at h
  · split at h
    · cases h
    · rename_i hs
      simpa using hs
  · cases h
theorem addr_split {a : Addr} (h : a.spot = none) (i : Nat) : a.add i = ⟨a.block, a.off + i, none⟩ := by
  obtain ⟨b, o, s⟩ := a
  simp at h
  subst h
  unfold Addr.add
  split
  · subst_vars; rfl
  · rfl
/-- A slice of integers that came in. -/
theorem read_ints {t e : TypeId} {v : Value} {d : DataW H} {p : List MemPlace} {r : Reach} {b0 : Nat} (ht : P.underlying t = some (.slice e)) (he : P.underlying e = some (.int .i64)) (hc : P.cellsOf e = 1)
    (hv : Value.okWide P w r b0 t v) (h : DataW.Trod enc P w 0 (fun _ => true) true t v d p) : ∃ (A : Option Addr) (n cap : Nat) (f : Nat → Int), v = .slice A n cap ∧ RdF w A n 1 (fun i _ => f i) := by
  obtain ⟨a0, len, cap, rfl⟩ := okWide_slice ht hv
  obtain ⟨fuel, hf⟩ := h
  rcases open_ints ht he hc hf with ⟨hcs, _⟩ | ⟨a, len', cap', zs, hcs, _, hl, hm, hz, _, hcell, _⟩
  · simp [Value.cells] at hcs
    obtain ⟨rfl, rfl, rfl⟩ := hcs
    exact ⟨none, 0, 0, fun _ => 0, rfl, by simp, fun h => by omega⟩
  · simp [Value.cells] at hcs
    obtain ⟨rfl, rfl, rfl⟩ := hcs
    simp at hz
    refine ⟨some a, len, cap, fun i => zs.getD i 0, rfl, by omega, fun hn => ?_⟩
    have h0 := hcell 0 (by omega)
    have hs := spot_none h0
    have hsa : a.spot = none := by
      have := hs.1
      unfold Addr.add at this
      simpa using this
    refine ⟨a.block, a.off, by rw [← hsa], ?_, fun i hi j hj => ?_⟩
    · have := hs.2
      unfold Addr.add at this
      simpa using this
    · have hj0 : j = 0 := by omega
      subst hj0
      have := hcell i (by omega)
      rw [addr_split hsa] at this
      simpa using this
end
end Go.Proofs.Ytfcbidlpficdgaa
