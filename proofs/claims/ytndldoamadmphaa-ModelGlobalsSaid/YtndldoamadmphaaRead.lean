/- Arguments read out of memory: slices of integers, slices of structs of integers. -/
import Derived.Test.YtndldoamadmphaaLaw
import Derived.Deep.Slices
import Derived.Deep.Fields
namespace Go.Proofs.Ytndldoamadmphaa
open Go.ChangeShapes Go.WideShapes Go.ChangeAt Go.RowKit

/-- n elements of k integer cells each, from the address A on. -/
def RdF (w : World) (A : Option Addr) (n k : Nat) (f : Nat → Nat → Int) : Prop :=
  n ≤ maxLen ∧ (0 < n → ∃ b off, A = some ⟨b, off, none⟩ ∧ b < w.heap.size ∧ ∀ i, i < n → ∀ j, j < k → w.cell? ⟨b, off + (i * k + j), none⟩ = some (.int .i64 (f i j)))
theorem RdF.upd {w w' : World} {A : Option Addr} {n k : Nat} {f : Nat → Nat → Int} {S : Nat → Prop} (h : RdF w A n k f) (hu : Upd S w w') (hS : ∀ b, S b → w.heap.size ≤ b) : RdF w' A n k f := by
  refine ⟨h.1, fun hn => ?_⟩
  obtain ⟨b, off, hA, hb, hc⟩ := h.2 hn
  have hn : ¬ S b := fun e => by have := hS b e; omega
  exact ⟨b, off, hA, Nat.lt_of_lt_of_le hb hu.size, fun i hi j hj => by rw [hu.cell hb hn]; exact hc i hi j hj⟩

section
variable {H : Type} {enc : TypeId × Value → H} {P : Program} {w : World}
theorem spot_none {a : Addr} {v : Value} (h : w.cell? a = some v) : a.spot = none ∧ a.block < w.heap.size := by
  refine ⟨?_, block_lt_of_cell h⟩
  unfold World.cell? at h
  split at h
  · split at h
    · cases h
    · rename_i hs
      simpa using hs
  · cases h
theorem addr_split {a : Addr} (h : a.spot = none) (i : Nat) : a.add i = ⟨a.block, a.off + i, none⟩ := by
  obtain ⟨b, o, s⟩ := a
  simp at h
  subst h
  unfold Addr.add
  split
  · subst_vars; rfl
  · rfl
/-- A slice of integers that came in. -/
theorem read_ints {t e : TypeId} {v : Value} {d : DataW H} {p : List MemPlace} {r : Reach} {b0 : Nat} (ht : P.underlying t = some (.slice e)) (he : P.underlying e = some (.int .i64)) (hc : P.cellsOf e = 1)
    (hv : Value.okWide P w r b0 t v) (h : DataW.Trod enc P w 0 (fun _ => true) true t v d p) : ∃ (A : Option Addr) (n cap : Nat) (f : Nat → Int), v = .slice A n cap ∧ RdF w A n 1 (fun i _ => f i) := by
  obtain ⟨a0, len, cap, rfl⟩ := okWide_slice ht hv
  obtain ⟨fuel, hf⟩ := h
  rcases open_ints ht he hc hf with ⟨hcs, _⟩ | ⟨a, len', cap', zs, hcs, _, hl, hm, hz, _, hcell, _⟩
  · simp [Value.cells] at hcs
    obtain ⟨rfl, rfl, rfl⟩ := hcs
    exact ⟨none, 0, 0, fun _ => 0, rfl, by simp, fun h => by omega⟩
  · simp [Value.cells] at hcs
    obtain ⟨rfl, rfl, rfl⟩ := hcs
    simp at hz
    refine ⟨some a, len, cap, fun i => zs.getD i 0, rfl, by omega, fun hn => ?_⟩
    have h0 := hcell 0 (by omega)
    have hs := spot_none h0
    have hsa : a.spot = none := by
      have := hs.1
      unfold Addr.add at this
      simpa using this
    refine ⟨a.block, a.off, by rw [← hsa], ?_, fun i hi j hj => ?_⟩
    · have := hs.2
      unfold Addr.add at this
      simpa using this
    · have hj0 : j = 0 := by omega
      subst hj0
      have := hcell i (by omega)
      rw [addr_split hsa] at this
      simpa using this

/-- A struct all of whose fields are integers of one cell. -/
def intFields (P : Program) (fs : Array Field) : Bool := (List.range fs.size).all fun j => match fs[j]? with
  | some f => f.offset == j && P.cellsOf f.type == 1 && (match P.underlying f.type with | some (.int .i64) => true | _ => false)
  | none => false
theorem intFields_at {fs : Array Field} (h : intFields P fs = true) (j : Nat) (f : Field) (hj : fs[j]? = some f) : f.offset = j ∧ P.cellsOf f.type = 1 ∧ P.underlying f.type = some (.int .i64) := by
  have hlt : j < fs.size := (Array.getElem?_eq_some_iff.1 hj).1
  have h1 := List.all_eq_true.1 h j (List.mem_range.2 hlt)
  simp only [hj, Bool.and_eq_true, beq_iff_eq] at h1
  refine ⟨h1.1.1, h1.1.2, ?_⟩
  have h2 := h1.2
  split at h2
  · rename_i e; exact e
  · cases h2
theorem struct_ints {e : TypeId} {fs : Array Field} {m : Nat} {cs : List Value} {x : DataW H × List MemPlace} {base : Nat} {spare : Nat → Bool} {held : Bool} (he : P.underlying e = some (.struct fs)) (hi : intFields P fs = true) (hC : P.cellsOf e = fs.size)
    (h : DataW.trod enc P w base spare held m e cs = some x) : ∃ g : Nat → Int, ∀ j, j < fs.size → cs[j]? = some (.int .i64 (g j)) := by
  obtain ⟨ys, m', _, _, hlen, hyl, hf⟩ := DataW.trod_struct he h
  rw [hC] at hlen
  have key : ∀ j, j < fs.size → ∃ z : Int, cs[j]? = some (.int .i64 z) := by
    intro j hj
    have hfj : fs[j]? = some fs[j] := Array.getElem?_eq_getElem hj
    obtain ⟨ho, hc, hu⟩ := intFields_at hi j _ hfj
    have h1 := hf j _ hfj
    rw [ho, hc] at h1
    have hone : (cs.drop j).take 1 = [cs[j]'(by omega)] := by
      rw [List.drop_eq_getElem_cons (by omega)]
      rfl
    rw [hone, List.getElem?_eq_getElem (by omega)] at h1
    obtain ⟨z, hz, _, _⟩ := DataW.trod_int hu h1
    refine ⟨z, ?_⟩
    rw [List.getElem?_eq_getElem (by omega)]
    simpa using hz
  obtain ⟨g, hg⟩ := Deep.choose_lt key
  exact ⟨g, hg⟩
/-- A slice of such structs that came in. -/
theorem read_structs {t e : TypeId} {fs : Array Field} {v : Value} {d : DataW H} {p : List MemPlace} {r : Reach} {b0 : Nat} (ht : P.underlying t = some (.slice e)) (he : P.underlying e = some (.struct fs)) (hi : intFields P fs = true) (hC : P.cellsOf e = fs.size) (hfs : 0 < fs.size)
    (hv : Value.okWide P w r b0 t v) (h : DataW.Trod enc P w 0 (fun _ => true) true t v d p) : ∃ (A : Option Addr) (n cap : Nat) (f : Nat → Nat → Int), v = .slice A n cap ∧ RdF w A n fs.size f := by
  obtain ⟨a0, len, cap, rfl⟩ := okWide_slice ht hv
  obtain ⟨fuel, hf⟩ := h
  rcases Deep.open_slice ht hf with ⟨hcs, _⟩ | ⟨a, len', cap', m, n, D, Pl, hcs, _, hl, hm, hmm, _, hel⟩
  · simp [Value.cells] at hcs
    obtain ⟨rfl, rfl, rfl⟩ := hcs
    exact ⟨none, 0, 0, fun _ _ => 0, rfl, by simp, fun h => by omega⟩
  · simp [Value.cells] at hcs
    obtain ⟨rfl, rfl, rfl⟩ := hcs
    simp at hmm
    have key : ∀ i, i < len → ∃ g : Nat → Int, ∀ j, j < fs.size → w.cell? (a.add (i * fs.size + j)) = some (.int .i64 (g j)) := by
      intro i hi'
      obtain ⟨cs', hc, htr⟩ := hel i (by omega)
      rw [hC] at hc
      obtain ⟨g, hg⟩ := struct_ints he hi hC htr
      obtain ⟨_, _, hat⟩ := World.cells?_some hc
      refine ⟨g, fun j hj => ?_⟩
      rw [← Deep.add_add, hat j hj]
      exact hg j hj
    obtain ⟨f, hf⟩ := Deep.choose_lt key
    refine ⟨some a, len, cap, f, rfl, by omega, fun hn => ?_⟩
    have h0 := hf 0 hn 0 hfs
    have hs := spot_none h0
    have hsa : a.spot = none := by
      have := hs.1
      unfold Addr.add at this
      simpa using this
    refine ⟨a.block, a.off, by rw [← hsa], ?_, fun i hi' j hj => ?_⟩
    · have := hs.2
      unfold Addr.add at this
      simpa using this
    · have := hf i hi' j hj
      rw [addr_split hsa] at this
      exact this
end
end Go.Proofs.Ytndldoamadmphaa
