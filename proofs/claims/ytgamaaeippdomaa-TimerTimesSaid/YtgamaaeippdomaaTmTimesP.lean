/- The plain law of TimerTimes: what Due tells, in the order of times, of like ones of their coming. No program in sight. -/
import Derived.Test.YtgamaaeippdomaaHeap
namespace Go.Proofs.Ytgamaaeippdomaa

def baseS (W : Nat → Nat) (i : Nat) : List Sl := (List.range i).map fun k => ⟨(W k : Int), (k : Int), (k : Int) + 1⟩
theorem baseS_succ (W : Nat → Nat) (i : Nat) : baseS W (i + 1) = baseS W i ++ [⟨(W i : Int), (i : Int), (i : Int) + 1⟩] := by
  unfold baseS
  rw [List.range_succ, List.map_append]
  rfl
theorem baseS_mem {W : Nat → Nat} {n : Nat} {x : Sl} (h : x ∈ baseS W n) : ∃ j, j < n ∧ x = ⟨(W j : Int), (j : Int), (j : Int) + 1⟩ := by
  unfold baseS at h
  obtain ⟨j, hj, e⟩ := List.mem_map.1 h
  exact ⟨j, List.mem_range.1 hj, e.symm⟩
theorem baseS_len (W : Nat → Nat) (n : Nat) : (baseS W n).length = n := by simp [baseS]
theorem baseS_ne (W : Nat → Nat) (n : Nat) : (baseS W n).Pairwise (fun a b => a.seq ≠ b.seq) := by
  unfold baseS
  rw [List.pairwise_map]
  refine (List.nodup_range (n := n)).imp ?_
  intro a b h
  simp
  omega

/-- What holds ahead of a step: D is told, H still sleeps. -/
structure TInv (n : Nat) (W : Nat → Nat) (D H : List Sl) (lo last was : Int) : Prop where
  perm : (D ++ H).Perm (baseS W n)
  heap : IsHeap H H.length
  low : ∀ y ∈ H, lo < y.when
  past : ∀ y ∈ H, was < y.when ∨ (was = y.when ∧ last < y.g)

/-- The last told. -/
def lastT (xs : List Sl) (k : Nat) (was last : Int) : Int × Int := if k = 0 then (was, last) else ((at0 xs (k - 1)).when, (at0 xs (k - 1)).g)

structure TStep (n : Nat) (W : Nat → Nat) (now lo last was : Int) (xs : List Sl) : Prop where
  it : ∀ k, k < xs.length → ∃ j : Nat, j < n ∧ (at0 xs k).g = j ∧ (at0 xs k).when = W j ∧ (W j : Int) ≤ now ∧ lo < W j ∧ (lastT xs k was last).1 ≤ W j ∧ ((lastT xs k was last).1 = W j → (lastT xs k was last).2 < j)

theorem at0_mem {l : List Sl} {i : Nat} (h : i < l.length) : at0 l i ∈ l := List.mem_of_getElem? (at0_get h)

theorem tstep {n : Nat} {W : Nat → Nat} {D H : List Sl} {lo last was : Int} (h : TInv n W D H lo last was) (now : Int) :
    ∃ xs, (dueL now H.length H).1 = xs.map (·.g) ∧ xs.length + (dueL now H.length H).2.length = H.length ∧ TStep n W now lo last was xs ∧
      TInv n W (D ++ xs) (dueL now H.length H).2 now (lastT xs xs.length was last).2 (lastT xs xs.length was last).1 := by
  obtain ⟨xs, x1, x2, x3, x4, x5, x6⟩ := due_spec now H.length H rfl h.heap
  have hperm : (D ++ xs ++ (dueL now H.length H).2).Perm (baseS W n) := by
    rw [List.append_assoc]
    exact (List.Perm.append_left D x2).trans h.perm
  have hne : (D ++ xs ++ (dueL now H.length H).2).Pairwise (fun a b => a.seq ≠ b.seq) :=
    (hperm.pairwise_iff (fun h => Ne.symm h)).2 (baseS_ne W n)
  rw [List.append_assoc] at hne
  have hne2 : (xs ++ (dueL now H.length H).2).Pairwise (fun a b => a.seq ≠ b.seq) := (List.pairwise_append.1 hne).2.1
  have hxs : ∀ x ∈ xs, ∃ j, j < n ∧ x = ⟨(W j : Int), (j : Int), (j : Int) + 1⟩ := fun x hx =>
    baseS_mem (hperm.subset (List.mem_append_left _ (List.mem_append_right _ hx)))
  have hH' : ∀ x ∈ (dueL now H.length H).2, ∃ j, j < n ∧ x = ⟨(W j : Int), (j : Int), (j : Int) + 1⟩ := fun x hx =>
    baseS_mem (hperm.subset (List.mem_append_right _ hx))
  have hxH : ∀ x ∈ xs, x ∈ H := fun x hx => x2.subset (List.mem_append_left _ hx)
  have hHH : ∀ x ∈ (dueL now H.length H).2, x ∈ H := fun x hx => x2.subset (List.mem_append_right _ hx)
  have hlen : xs.length + (dueL now H.length H).2.length = H.length := by
    have := x2.length_eq
    rwa [List.length_append] at this
  refine ⟨xs, x1, hlen, ⟨?_⟩, ⟨hperm, x6, x5, ?_⟩⟩
  · intro k hk
    have hm := at0_mem hk
    obtain ⟨j, hj, e⟩ := hxs _ hm
    have hw := x4 _ hm
    have hl := h.low _ (hxH _ hm)
    have hp := h.past _ (hxH _ hm)
    refine ⟨j, hj, by rw [e], by rw [e], ?_, ?_, ?_⟩
    · rw [e] at hw; exact hw
    · rw [e] at hl; exact hl
    · unfold lastT
      by_cases k0 : k = 0
      · rw [if_pos k0]
        rw [e] at hp
        simp at hp ⊢
        omega
      · rw [if_neg k0]
        have hk1 : k - 1 < xs.length := by omega
        obtain ⟨i, hi, e2⟩ := hxs _ (at0_mem hk1)
        have h3 := List.pairwise_iff_getElem.1 x3 (k - 1) k hk1 hk (by omega)
        have h4 := List.pairwise_iff_getElem.1 (List.pairwise_append.1 hne2).1 (k - 1) k hk1 hk (by omega)
        have ea : ∀ i (hi : i < xs.length), xs[i] = at0 xs i := fun i hi => by simp [at0, List.getD, hi]
        rw [ea _ hk1, ea _ hk, e, e2] at h3 h4
        rw [e2]
        unfold ltS at h3
        simp at h3 h4 ⊢
        omega
  · intro y hy
    unfold lastT
    by_cases k0 : xs.length = 0
    · rw [if_pos k0]
      exact h.past y (hHH y hy)
    · rw [if_neg k0]
      have hk1 : xs.length - 1 < xs.length := by omega
      have hw := x4 _ (at0_mem hk1)
      have := x5 y hy
      left
      simp
      omega
theorem tinv_end {n : Nat} {W : Nat → Nat} {D H : List Sl} {lo last was : Int} (h : TInv n W D H lo last was) (hW : ∀ j, j < n → W j < 1000) (hlo : 999 ≤ lo) : H = [] ∧ D.length = n := by
  have h0 : H = [] := by
    cases hH : H with
    | nil => rfl
    | cons y l =>
      have hy : y ∈ H := by rw [hH]; simp
      obtain ⟨j, hj, e⟩ := baseS_mem (h.perm.subset (List.mem_append_right _ hy))
      have := h.low y hy
      have := hW j hj
      rw [e] at *
      simp at *
      omega
  subst h0
  have := h.perm.length_eq
  rw [List.append_nil, baseS_len] at this
  exact ⟨rfl, this⟩
theorem tinv_start {n : Nat} {W : Nat → Nat} {H : List Sl} (h : H.Perm (baseS W n)) (hh : IsHeap H n) {s : Int} (hs : 0 < s) : TInv n W [] H (0 - s) (-1) (-1) := by
  have hl := h.length_eq
  rw [baseS_len] at hl
  refine ⟨h, by rw [hl]; exact hh, ?_, ?_⟩
  · intro y hy
    obtain ⟨j, hj, e⟩ := baseS_mem (h.subset hy)
    rw [e]
    simp
    omega
  · intro y hy
    obtain ⟨j, hj, e⟩ := baseS_mem (h.subset hy)
    rw [e]
    left
    simp
    omega
end Go.Proofs.Ytgamaaeippdomaa
