/- Which objects can be reached: the plain law of the search. No program in sight. -/
import Derived.Test.YtndldoamadmphaaGet1
namespace Go.Proofs.Ytndldoamadmphaa
def stackOf (M : Mo) (g : Int) : List Int := (List.range 16).map (gorAt M g.toNat).stack
def rootsL (M : Mo) : List Int := M.gl ++ (alive M.st).flatMap (stackOf M)
/-- What can be reached. -/
inductive Rch (M : Mo) : Int → Prop
  | root (v : Int) : v ∈ rootsL M → v ≠ 0 → Rch M v
  | slot (u v : Int) : Rch M u → v ∈ M.sl.getD u.toNat [] → v ≠ 0 → Rch M v
open Classical in
noncomputable def reachL (M : Mo) : List Int := ((List.range M.sl.length).filter (fun k : Nat => decide (Rch M k))).map (fun k : Nat => (k : Int))
theorem mem_reachL {M : Mo} {v : Int} : v ∈ reachL M ↔ ∃ k : Nat, v = k ∧ k < M.sl.length ∧ Rch M k := by
  unfold reachL
  simp only [List.mem_map, List.mem_filter, List.mem_range, decide_eq_true_eq]
  constructor
  · rintro ⟨k, ⟨h1, h2⟩, rfl⟩
    exact ⟨k, rfl, h1, h2⟩
  · rintro ⟨k, rfl, h1, h2⟩
    exact ⟨k, ⟨h1, h2⟩, rfl⟩
open Classical in
theorem reachL_of {M : Mo} {seen : List Bool} (h : ∀ k : Nat, k < M.sl.length → (seen.getD k false = true ↔ Rch M k)) :
    ((List.range M.sl.length).filter (fun k : Nat => seen.getD k false)).map (fun k : Nat => (k : Int)) = reachL M := by
  unfold reachL
  congr 1
  apply List.filter_congr
  intro k hk
  rw [List.mem_range] at hk
  rw [Bool.eq_iff_iff, h k hk, decide_eq_true_iff]
/-- The search, under way. -/
structure Srch (M : Mo) (td : List Int) (seen : List Bool) : Prop where
  len : seen.length = M.sl.length
  todo : ∀ v ∈ td, (0 ≤ v ∧ v < M.sl.length) ∧ (v ≠ 0 → Rch M v)
  sound : ∀ k : Nat, seen.getD k false = true → Rch M k
  root : ∀ v ∈ rootsL M, v = 0 ∨ seen.getD v.toNat false = true ∨ v ∈ td
  slot : ∀ k : Nat, seen.getD k false = true → ∀ v ∈ M.sl.getD k [], v = 0 ∨ seen.getD v.toNat false = true ∨ v ∈ td
def unseen (seen : List Bool) : Nat := seen.countP (fun b => !b)
variable {M : Mo} {n : Nat}
theorem root_bd (ok : Good M n) {v : Int} (h : v ∈ rootsL M) : 0 ≤ v ∧ v < M.sl.length := by
  unfold rootsL at h
  rcases List.mem_append.1 h with h | h
  · exact ok.gl v h
  · obtain ⟨g, hg, hv⟩ := List.mem_flatMap.1 h
    unfold stackOf at hv
    obtain ⟨k, hk, rfl⟩ := List.mem_map.1 hv
    by_cases h1 : g.toNat < M.gs.length
    · exact (ok.at_ h1).stack k
    · have : gorAt M g.toNat = ⟨0, 0, 0, fun _ => 0⟩ := by simp [gorAt, List.getD, List.getElem?_eq_none (by omega : M.gs.length ≤ g.toNat)]
      rw [this]
      have := ok.pos
      exact ⟨Int.le_refl 0, show (0 : Int) < M.sl.length by omega⟩
theorem slot_bd (ok : Good M n) {k : Nat} {v : Int} (h : v ∈ M.sl.getD k []) : 0 ≤ v ∧ v < M.sl.length := by
  rw [List.getD] at h
  cases e : M.sl[k]? with
  | none => rw [e] at h; simp at h
  | some l => rw [e] at h; exact (ok.sl l (List.mem_of_getElem? e)).2 v h
theorem rch_bd (ok : Good M n) {v : Int} (h : Rch M v) : 0 ≤ v ∧ v < M.sl.length := by
  cases h with
  | root v hv _ => exact root_bd ok hv
  | slot u v _ hv _ => exact slot_bd ok hv
theorem Srch.start (ok : Good M n) : Srch M (rootsL M) (List.replicate M.sl.length false) := by
  have hf : ∀ k, (List.replicate M.sl.length false).getD k false = false := by
    intro k
    rw [List.getD, List.getElem?_replicate]
    split <;> rfl
  refine ⟨by simp, fun v hv => ⟨root_bd ok hv, fun h0 => .root v hv h0⟩, fun k hk => ?_, fun v hv => .inr (.inr hv), fun k hk => ?_⟩
  · rw [hf] at hk; cases hk
  · rw [hf] at hk; cases hk
theorem Srch.skip {t : List Int} {x : Int} {seen : List Bool} (h : Srch M (t ++ [x]) seen) (hx : x = 0 ∨ seen.getD x.toNat false = true) : Srch M t seen := by
  refine ⟨h.len, fun v hv => h.todo v (List.mem_append_left _ hv), h.sound, fun v hv => ?_, fun k hk v hv => ?_⟩
  · rcases h.root v hv with e | e | e
    · exact .inl e
    · exact .inr (.inl e)
    · rcases List.mem_append.1 e with e | e
      · exact .inr (.inr e)
      · rw [List.mem_singleton] at e
        subst e
        rcases hx with hx | hx
        · exact .inl hx
        · exact .inr (.inl hx)
  · rcases h.slot k hk v hv with e | e | e
    · exact .inl e
    · exact .inr (.inl e)
    · rcases List.mem_append.1 e with e | e
      · exact .inr (.inr e)
      · rw [List.mem_singleton] at e
        subst e
        rcases hx with hx | hx
        · exact .inl hx
        · exact .inr (.inl hx)
theorem getD_set (l : List Bool) (i k : Nat) (hi : i < l.length) : (l.set i true).getD k false = if k = i then true else l.getD k false := by
  rw [List.getD, List.getElem?_set]
  by_cases e : i = k
  · subst e
    rw [if_pos rfl, if_pos hi, if_pos rfl]
    rfl
  · rw [if_neg e, if_neg (fun c => e c.symm)]
    rfl
theorem Srch.mark (ok : Good M n) {t : List Int} {x : Int} {seen : List Bool} (h : Srch M (t ++ [x]) seen) (hx : x ≠ 0) : Srch M (t ++ M.sl.getD x.toNat []) (seen.set x.toNat true) := by
  obtain ⟨⟨b0, b1⟩, hr⟩ := h.todo x (by simp)
  have hrx := hr hx
  have hlt : x.toNat < seen.length := by rw [h.len]; omega
  refine ⟨by simpa using h.len, fun v hv => ?_, fun k hk => ?_, fun v hv => ?_, fun k hk v hv => ?_⟩
  · rcases List.mem_append.1 hv with hv | hv
    · exact h.todo v (List.mem_append_left _ hv)
    · exact ⟨slot_bd ok hv, fun h0 => .slot x v hrx hv h0⟩
  · rw [getD_set _ _ _ hlt] at hk
    by_cases e : k = x.toNat
    · rw [e, show ((x.toNat : Nat) : Int) = x by omega]
      exact hrx
    · rw [if_neg e] at hk
      exact h.sound k hk
  · rw [getD_set _ _ _ hlt]
    rcases h.root v hv with e | e | e
    · exact .inl e
    · refine .inr (.inl ?_)
      split
      · rfl
      · exact e
    · rcases List.mem_append.1 e with e | e
      · exact .inr (.inr (List.mem_append_left _ e))
      · rw [List.mem_singleton] at e
        subst e
        rw [if_pos rfl]
        exact .inr (.inl rfl)
  · rw [getD_set _ _ _ hlt]
    rw [getD_set _ _ _ hlt] at hk
    by_cases ek : k = x.toNat
    · rw [ek] at hv
      exact .inr (.inr (List.mem_append_right _ hv))
    · rw [if_neg ek] at hk
      rcases h.slot k hk v hv with e | e | e
      · exact .inl e
      · refine .inr (.inl ?_)
        split
        · rfl
        · exact e
      · rcases List.mem_append.1 e with e | e
        · exact .inr (.inr (List.mem_append_left _ e))
        · rw [List.mem_singleton] at e
          subst e
          rw [if_pos rfl]
          exact .inr (.inl rfl)
theorem Srch.done {seen : List Bool} (h : Srch M [] seen) (k : Nat) : seen.getD k false = true ↔ Rch M k := by
  refine ⟨h.sound k, fun hr => ?_⟩
  have key : ∀ v, Rch M v → seen.getD v.toNat false = true := by
    intro v hv
    induction hv with
    | root v hv h0 =>
      rcases h.root v hv with e | e | e
      · exact absurd e h0
      · exact e
      · cases e
    | slot u v hu hv h0 ih =>
      rcases h.slot u.toNat ih v hv with e | e | e
      · exact absurd e h0
      · exact e
      · cases e
  have := key k hr
  rwa [Int.toNat_natCast] at this
theorem unseen_mark {seen : List Bool} {k : Nat} (hk : k < seen.length) (h : seen.getD k false = false) : unseen (seen.set k true) + 1 = unseen seen := by
  have h1 : seen[k] = false := by rw [List.getD, List.getElem?_eq_getElem hk] at h; exact h
  unfold unseen
  rw [List.countP_set hk]
  simp [h1]
  have : 0 < seen.countP (fun b => !b) := List.countP_pos_iff.2 ⟨seen[k], List.getElem_mem hk, by simp [h1]⟩
  omega
end Go.Proofs.Ytndldoamadmphaa
