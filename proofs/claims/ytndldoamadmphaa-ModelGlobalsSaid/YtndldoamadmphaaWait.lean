/- Contracts of package wait. -/
import Derived.Test.YtndldoamadmphaaRegion
import Derived.Test.YtndldoamadmphaaInts
import Derived.Handy
import Derived.WalkSpells
import Derived.Deep.RegionWith
namespace Go.Proofs.Ytndldoamadmphaa
open Go.RowKit

/-- An element of one cell, out of an array by value. -/
theorem run_index_one {P : Program} (t e : TypeId) (n : Nat) (cs : Array Value) (i : Nat) (v : Value) (h : P.underlying t = some (.array n e)) (ha : ∀ w, (isAgg e).run P w = .ok false w) (hs : ∀ w, (Go.sizeOf e).run P w = .ok 1 w)
    (hi : i < n) (hv : cs[i]? = some v) (w : World) : (Instr.index t (.agg cs) (.int .i64 i)).run P w = .ok v w := by
  unfold Instr.index
  have hi' : (0 : Int) ≤ (i : Int) ∧ (i : Int) < (n : Int) := ⟨by omega, by omega⟩
  simp [asIntOf, run_underlying h, hi, hs, part, ha, hv]

theorem Row.lenv {w : World} {row : Option Nat} {v : Value} {l : List Int} (h : Row w 3 row v (l.map (Value.int .i64))) : ∃ A cap, v = .slice A l.length cap := by
  obtain ⟨A, cap, hv, _⟩ := h.rdf
  exact ⟨A, cap, hv⟩

theorem sindex_c {w : World} {row : Option Nat} {v : Value} {l : List Int} (h : Row w 3 row v (l.map (Value.int .i64))) (g : Int) :
    Calls Try.prog 88 #[v, .int .i64 g] w fun e w' => (∃ i : Int, e = .returned (.int .i64 i) ∧ (decide (0 ≤ i) = decide (g ∈ l))) ∧ w = w' := by
  obtain ⟨A, cap, rfl, hr⟩ := h.rdf
  have hm := hr.1
  unfold maxLen at hm
  have Hr := Lib.hid hr
  clear h hr
  go_enter Try.func88, Try.ntmps88
  go_wp2_with fail
  go_loop [8] (fun v8 => ∃ k : Nat, k ≤ l.length ∧ v8 = .int .i64 k ∧ ∀ j, j < k → l.getD j 0 ≠ g) (fun v8 => l.length - (intOf v8).toNat)
  case atStart => exact ⟨0, by omega, rfl, fun j hj => absurd hj (by omega)⟩
  case round =>
    obtain ⟨k, hk, rfl, hne⟩ := hrel
    have Hne := Lib.hid hne
    clear hne
    by_cases hlt : k < l.length
    · obtain ⟨b, off, rfl, _, hcells⟩ := Hr.out.2 (by omega)
      have hcell : w.cell? ⟨b, off + k, none⟩ = some (.int .i64 (l.getD k 0)) := by
        have := hcells k hlt 0 (by omega)
        simpa using this
      obtain ⟨x, hx⟩ : ∃ x, x = l.getD k 0 := ⟨_, rfl⟩
      rw [← hx] at hcell
      have Hx := Lib.hid hx
      clear hcells hx
      by_cases he : g = x
      · have heb : (g == x) = true := by simpa using he
        have hmem : g ∈ l := by
          rw [he, Hx.out]
          simp [List.getD, hlt]
        have Hmem := Lib.hid hmem
        clear he hmem
        go_wp2_with fail
        go_ret
        exact ⟨⟨k, rfl, by simp [Hmem.out]⟩, rfl⟩
      · have heb : (g == x) = false := by simpa using he
        have hne2 : ∀ j, j < k + 1 → l.getD j 0 ≠ g := by
          intro j hj
          rcases Nat.lt_succ_iff_lt_or_eq.1 hj with h | h
          · exact Hne.out j h
          · rw [h, ← Hx.out]; exact fun e => he e.symm
        have Hne2 := Lib.hid hne2
        clear he hne2
        go_wp2_with fail
        go_round
        case rel => exact ⟨k + 1, by omega, by go_num, Hne2.out⟩
        case measure => simp [intOf]; omega
    · have hno : ¬ g ∈ l := by
        intro hg
        obtain ⟨j, hj, e⟩ := List.mem_iff_getElem.1 hg
        exact Hne.out j (by omega) (by rw [← e]; simp [List.getD, hj])
      have Hno := Lib.hid hno
      clear hno
      go_wp2_with fail
      go_ret
      exact ⟨⟨-1, rfl, by simp [Hno.out]⟩, rfl⟩
theorem contains_c {w : World} {row : Option Nat} {v : Value} {l : List Int} (h : Row w 3 row v (l.map (Value.int .i64))) (g : Int) :
    Calls Try.prog 87 #[v, .int .i64 g] w fun e w' => e = .returned (.bool (decide (g ∈ l))) ∧ w = w' := by
  have Hc := Lib.hid (sindex_c h g)
  clear h
  go_enter Try.func87, Try.ntmps87
  go_wp2_with fail
  refine Hc.out.mono ?_
  rintro e w1 ⟨⟨i, rfl, hi⟩, rfl⟩
  have Hi := Lib.hid hi
  clear hi
  go_wp2_with fail
  go_ret
  exact ⟨by rw [Hi.out]; rfl, rfl⟩

/-- Who waits, in memory. -/
def arr32 (vs : Nat → Value) : Array Value := ((List.range 32).map vs).toArray
theorem arr32_get (vs : Nat → Value) {i : Nat} (h : i < 32) : (arr32 vs)[i]? = some (vs i) := by simp [arr32, h]
def upN {α : Type} (f : Nat → α) (i : Nat) (x : α) : Nat → α := fun j => if j = i then x else f j
theorem upN_same {α : Type} (f : Nat → α) (i : Nat) (x : α) : upN f i x i = x := by simp [upN]
theorem upN_other {α : Type} (f : Nat → α) {i j : Nat} (x : α) (h : j ≠ i) : upN f i x j = f j := by simp [upN, h]
theorem arr32_set (vs : Nat → Value) (i : Nat) (u : Value) : (arr32 vs).setIfInBounds i u = arr32 (upN vs i u) := by
  apply Array.ext
  · simp [arr32]
  · intro j h1 h2
    have hj : j < 32 := by simpa [arr32] using h2
    rw [Array.getElem_setIfInBounds]
    · simp only [arr32, List.getElem_toArray, List.getElem_map, List.getElem_range, upN]
      by_cases e : i = j
      · subst e; simp
      · rw [if_neg e, if_neg (fun h => e h.symm)]
    · simpa [arr32] using hj
structure WtAt (w : World) (a : Nat) (vs : Nat → Value) (rs : Nat → Option Nat) (L : Nat → List Int) : Prop where
  blk : Blk w a 100 (arr32 vs)
  row : ∀ i, i < 32 → Row w 3 (rs i) (vs i) ((L i).map (Value.int .i64))
  ne : ∀ i, i < 32 → rs i ≠ some a
  dis : ∀ i j, i < 32 → j < 32 → i ≠ j → ∀ k, rs i = some k → rs j ≠ some k
def ownW (a : Nat) (rs : Nat → Option Nat) (k : Nat) : Prop := k = a ∨ ∃ i, i < 32 ∧ rs i = some k
theorem WtAt.upd {w w' : World} {a : Nat} {vs : Nat → Value} {rs : Nat → Option Nat} {L : Nat → List Int} {S : Nat → Prop} (h : WtAt w a vs rs L) (hu : Upd S w w') (hn : ∀ k, ownW a rs k → ¬ S k) : WtAt w' a vs rs L :=
  ⟨h.blk.upd hu (hn a (.inl rfl)), fun i hi => (h.row i hi).upd hu (fun k hk => hn k (.inr ⟨i, hi, hk⟩)), h.ne, h.dis⟩
theorem wnew_c (w : World) : Calls Try.prog 37 #[] w fun e w' => e = .returned (.pointer (some ⟨w.heap.size, 0, none⟩)) ∧ WtAt w' w.heap.size (fun _ => .slice none 0 0) (fun _ => none) (fun _ => []) ∧ Upd (fun _ => False) w w' := by
  go_enter Try.func37, Try.ntmps37
  go_wp2
  go_ret
  exact ⟨rfl, ⟨Blk.new _ _ _, fun _ _ => Row.nil _ _, fun _ _ => by simp, fun _ _ _ _ _ k hk => by cases hk⟩, (Upd.refl _ _).alloc _⟩
def placeB (at' : Int) : Bool := decide (0 ≤ at') && decide (at' < 32)
theorem place_c (a : Int) (w : World) : Calls Try.prog 84 #[.int .i64 a] w fun e w' => e = .returned (.bool (placeB a)) ∧ w = w' := by
  by_cases h1 : 0 ≤ a
  · by_cases h2 : a < 32
    · have e : placeB a = true := by simp [placeB, h1, h2]
      have E := Lib.hid e
      clear e
      go_enter Try.func84, Try.ntmps84
      go_wp2
      go_ret
      exact ⟨by rw [E.out]; rfl, rfl⟩
    · have e : placeB a = false := by simp [placeB, h2]
      have E := Lib.hid e
      have h3 : decide (a < 32) = false := by simpa using h2
      clear e
      go_enter Try.func84, Try.ntmps84
      go_wp2
      go_ret
      exact ⟨by rw [E.out]; rfl, rfl⟩
  · have e : placeB a = false := by simp [placeB, h1]
    have E := Lib.hid e
    have h3 : decide (0 ≤ a) = false := by simpa using h1
    clear e
    go_enter Try.func84, Try.ntmps84
    go_wp2
    go_ret
    exact ⟨by rw [E.out]; rfl, rfl⟩

/-- Where somebody waits. -/
def someWaits (L : Nat → List Int) (g : Int) : Bool := (List.range 32).any fun i => decide (g ∈ L i)
set_option maxRecDepth 100000 in
set_option maxHeartbeats 1000000 in
theorem find_c {w : World} {a : Nat} {vs : Nat → Value} {rs : Nat → Option Nat} {L : Nat → List Int} (h : WtAt w a vs rs L) (g : Int) :
    Calls Try.prog 85 #[.pointer (some ⟨a, 0, none⟩), .int .i64 g] w fun e w' => (∃ i : Int, e = .returned (.int .i64 i) ∧ (decide (0 ≤ i) = someWaits L g)) ∧ w = w' := by
  have H := Lib.hid h
  have hb := h.blk.out
  have Hb := Lib.hid hb
  clear h hb
  go_enter Try.func85, Try.ntmps85
  go_wp2_with (refine wpList_load_row rfl 98 (.tmp 9) rfl a rfl _ _ _ _ Hb.out Try.underlying98 rfl (by kernel_rfl) ?_)
  go_wp2_with fail
  go_loop [11] (fun v11 => ∃ k : Nat, k ≤ 32 ∧ v11 = .int .i64 k ∧ ∀ j, j < k → ¬ g ∈ L j) (fun v11 => 32 - (intOf v11).toNat)
  case atStart => exact ⟨0, by omega, rfl, fun j hj => absurd hj (by omega)⟩
  case round =>
    obtain ⟨k, hk, rfl, hne⟩ := hrel
    have Hne := Lib.hid hne
    clear hne
    by_cases hlt : k < 32
    · have hidx := run_index_one (P := Try.prog) 98 44 32 (arr32 vs) k (vs k) Try.underlying98 (fun _ => Try.isAgg44 _) (fun _ => Try.sizeOf44 _) hlt (arr32_get vs hlt)
      have hc := contains_c (H.out.row k hlt) g
      have hkI : (k : Int) < 32 := by omega
      by_cases hg : g ∈ L k
      · have hw : someWaits L g = true := List.any_eq_true.2 ⟨k, by simp [hlt], by simpa using hg⟩
        rw [decide_eq_true hg] at hc
        have Hc := Lib.hid hc
        have Hw := Lib.hid hw
        clear hg hw hc
        go_wp2_with (refine Hc.out.mono ?_; rintro e w1 ⟨rfl, rfl⟩)
        go_ret
        exact ⟨⟨k, rfl, by rw [Hw.out]; simp⟩, rfl⟩
      · have hne2 : ∀ j, j < k + 1 → ¬ g ∈ L j := by
          intro j hj
          rcases Nat.lt_succ_iff_lt_or_eq.1 hj with h | h
          · exact Hne.out j h
          · rw [h]; exact hg
        rw [decide_eq_false hg] at hc
        have Hc := Lib.hid hc
        have Hne2 := Lib.hid hne2
        clear hg hne2 hc
        go_wp2_with (refine Hc.out.mono ?_; rintro e w1 ⟨rfl, rfl⟩)
        go_round
        case rel => exact ⟨k + 1, by omega, by go_num, Hne2.out⟩
        case measure => simp [intOf]; omega
    · have hno : someWaits L g = false := by
        unfold someWaits
        rw [List.any_eq_false]
        intro i hi
        simp at hi
        simpa using Hne.out i (by omega)
      have Hno := Lib.hid hno
      clear hno
      go_wp2_with fail
      go_ret
      exact ⟨⟨-1, rfl, by rw [Hno.out]; rfl⟩, rfl⟩
end Go.Proofs.Ytndldoamadmphaa
