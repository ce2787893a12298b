/- The heap's plain law: no program in sight. -/
import Derived.Test.YtndldoamadmphaaTimer7
namespace Go.Proofs.Ytndldoamadmphaa

def ltS (a b : Sl) : Prop := a.when < b.when ∨ (a.when = b.when ∧ a.seq < b.seq)
theorem lessS_iff (a b : Sl) : lessS a b = true ↔ ltS a b := by
  unfold lessS ordI orI cmpI ltS
  simp only [decide_eq_true_eq]
  split <;> split <;> (try split) <;> (try split) <;> omega
theorem ltS_trans {a b c : Sl} (h : ¬ ltS b a) (k : ¬ ltS c b) : ¬ ltS c a := by
  unfold ltS at *
  omega
theorem ltS_irr (a : Sl) : ¬ ltS a a := by unfold ltS; omega
theorem ltS_asym {a b : Sl} (h : ltS a b) : ¬ ltS b a := by unfold ltS at *; omega
theorem ltS_le {a b c : Sl} (h : ltS a b) (k : ¬ ltS c b) : ¬ ltS c a := by unfold ltS at *; omega

def sl0 : Sl := ⟨0, 0, 0⟩
def at0 (l : List Sl) (i : Nat) : Sl := l.getD i sl0
theorem at0_get {l : List Sl} {i : Nat} (h : i < l.length) : l[i]? = some (at0 l i) := by
  unfold at0
  simp [List.getD, h]
theorem at0_mem {l : List Sl} {i : Nat} (h : i < l.length) : at0 l i ∈ l := List.mem_of_getElem? (at0_get h)
theorem lessAt_iff {l : List Sl} {i j : Nat} (hi : i < l.length) (hj : j < l.length) : lessAt l i j = true ↔ ltS (at0 l i) (at0 l j) := by
  unfold lessAt
  rw [at0_get hi, at0_get hj]
  exact lessS_iff _ _
theorem swap_at {l : List Sl} {i j : Nat} (hi : i < l.length) (hj : j < l.length) (k : Nat) : at0 (swapL l i j) k = if k = j then at0 l i else if k = i then at0 l j else at0 l k := by
  unfold swapL
  rw [at0_get hi, at0_get hj]
  simp only [at0, List.getD_eq_getElem?_getD, List.getElem?_set, List.length_set]
  by_cases h1 : k = j
  · subst h1; simp [hj]
  · by_cases h2 : k = i
    · subst h2; simp [h1, hi, Ne.symm h1]
    · simp [h1, h2, Ne.symm h1, Ne.symm h2]
theorem swap_perm {l : List Sl} {i j : Nat} (hi : i < l.length) (hj : j < l.length) : (swapL l i j).Perm l := by
  unfold swapL
  rw [at0_get hi, at0_get hj]
  have h := List.set_set_perm hi hj
  have e1 : at0 l j = l[j] := by simp [at0, List.getD, hj]
  have e2 : at0 l i = l[i] := by simp [at0, List.getD, hi]
  rw [e1, e2]
  exact h

/-- The first n are a heap. -/
def IsHeap (l : List Sl) (n : Nat) : Prop := ∀ k, 0 < k → k < n → ¬ ltS (at0 l k) (at0 l ((k - 1) / 2))
theorem heap_min {l : List Sl} {n : Nat} (h : IsHeap l n) : ∀ k, k < n → ¬ ltS (at0 l k) (at0 l 0) := by
  intro k
  induction k using Nat.strongRecOn with
  | ind k ih =>
    intro hk
    by_cases h0 : k = 0
    · subst h0; exact ltS_irr _
    · exact ltS_trans (ih ((k - 1) / 2) (by omega) (by omega)) (h k (by omega) hk)

theorem up_perm (l : List Sl) (j : Nat) : j < l.length → (upL l j).Perm l := by
  induction l, j using upL.induct with
  | case1 l => intro _; rw [upL, dif_pos rfl]
  | case2 l j h0 h1 ih =>
    intro hj
    rw [upL, dif_neg h0, if_pos h1]
    exact (ih (by rw [swapL_len]; omega)).trans (swap_perm (by omega) hj)
  | case3 l j h0 h1 => intro _; rw [upL, dif_neg h0, if_neg h1]
theorem up_heap (l : List Sl) (j : Nat) : j < l.length → (∀ k, 0 < k → k < l.length → k ≠ j → ¬ ltS (at0 l k) (at0 l ((k - 1) / 2))) →
    (∀ k, 0 < k → k < l.length → (k - 1) / 2 = j → 0 < j → ¬ ltS (at0 l k) (at0 l ((j - 1) / 2))) → IsHeap (upL l j) l.length := by
  induction l, j using upL.induct with
  | case1 l =>
    intro _ h _
    rw [upL, dif_pos rfl]
    intro k h0 hk
    exact h k h0 hk (by omega)
  | case2 l j h0 h1 ih =>
    intro hj h hc
    rw [upL, dif_neg h0, if_pos h1]
    have hp : (j - 1) / 2 < l.length := by omega
    have hlt : ltS (at0 l j) (at0 l ((j - 1) / 2)) := (lessAt_iff hj hp).1 h1
    have ih' := ih (by rw [swapL_len]; exact hp)
    rw [swapL_len] at ih'
    refine ih' ?_ ?_
    · intro k k0 hk hne
      rw [swap_at hp hj, swap_at hp hj]
      by_cases e1 : k = j
      · subst e1
        rw [if_pos rfl, if_neg (by omega), if_pos rfl]
        exact ltS_asym hlt
      · rw [if_neg e1, if_neg hne]
        by_cases e2 : (k - 1) / 2 = j
        · rw [if_pos e2]
          exact hc k k0 hk e2 (by omega)
        · rw [if_neg e2]
          by_cases e3 : (k - 1) / 2 = (j - 1) / 2
          · rw [if_pos e3]
            exact ltS_le hlt (e3 ▸ h k k0 hk e1)
          · rw [if_neg e3]
            exact h k k0 hk e1
    · intro k k0 hk e hj0
      have hpp : ¬ ltS (at0 l ((j - 1) / 2)) (at0 l (((j - 1) / 2 - 1) / 2)) := h _ hj0 hp (by omega)
      rw [swap_at hp hj, swap_at hp hj]
      rw [if_neg (show ((j - 1) / 2 - 1) / 2 ≠ j by omega), if_neg (show ((j - 1) / 2 - 1) / 2 ≠ (j - 1) / 2 by omega)]
      by_cases e1 : k = j
      · rw [if_pos e1]; exact hpp
      · rw [if_neg e1, if_neg (by omega)]
        exact ltS_trans hpp (e ▸ h k k0 hk e1)
  | case3 l j h0 h1 =>
    intro hj h _
    rw [upL, dif_neg h0, if_neg h1]
    intro k k0 hk
    by_cases e : k = j
    · subst e
      exact fun hh => h1 ((lessAt_iff hj (by omega)).2 hh)
    · exact h k k0 hk e
theorem push_heap {l : List Sl} (h : IsHeap l l.length) (s : Sl) : IsHeap (pushL l s) (l.length + 1) := by
  unfold pushL
  have e : ∀ k, k < l.length → at0 (l ++ [s]) k = at0 l k := by
    intro k hk
    simp [at0, List.getD, List.getElem?_append_left hk]
  have h1 := up_heap (l ++ [s]) l.length (by simp) (fun k k0 hk hne => by
    simp at hk
    rw [e k (by omega), e ((k - 1) / 2) (by omega)]
    exact h k k0 (by omega)) (fun k k0 hk e2 => by simp at hk; omega)
  simpa using h1
theorem push_perm (l : List Sl) (s : Sl) : (pushL l s).Perm (l ++ [s]) := up_perm _ _ (by simp)

theorem pick_spec {l : List Sl} {i n : Nat} (hn : n ≤ l.length) (h : 2 * i + 1 < n) : pickL l i n < n ∧ (pickL l i n - 1) / 2 = i ∧ ∀ c, 0 < c → c < n → (c - 1) / 2 = i → ¬ ltS (at0 l c) (at0 l (pickL l i n)) := by
  unfold pickL
  split
  · next hc =>
    have h1 := (lessAt_iff (by omega) (by omega)).1 hc.2
    refine ⟨hc.1, by omega, fun c c0 cn ce => ?_⟩
    rcases (show c = 2 * i + 1 ∨ c = 2 * i + 2 by omega) with e | e
    · subst e; exact ltS_asym h1
    · subst e; exact ltS_irr _
  · next hc =>
    refine ⟨h, by omega, fun c c0 cn ce => ?_⟩
    rcases (show c = 2 * i + 1 ∨ c = 2 * i + 2 by omega) with e | e
    · subst e; exact ltS_irr _
    · subst e
      exact fun hh => hc ⟨cn, (lessAt_iff (by omega) (by omega)).2 hh⟩
theorem down_perm (l : List Sl) (i n : Nat) : n ≤ l.length → (downL l i n).1.Perm l := by
  induction l, i using downL.induct (n := n) with
  | case1 l i h0 => intro _; rw [downL, dif_pos h0]
  | case2 l i h0 h1 ih =>
    intro hn
    have hp := pick_spec hn (by omega : 2 * i + 1 < n)
    rw [downL, dif_neg h0, if_pos h1]
    exact (ih (by rw [swapL_len]; exact hn)).trans (swap_perm (by omega) (by omega))
  | case3 l i h0 h1 => intro _; rw [downL, dif_neg h0, if_neg h1]
theorem down_keep (l : List Sl) (i n : Nat) (k : Nat) (hk : n ≤ k) : n ≤ l.length → at0 (downL l i n).1 k = at0 l k := by
  induction l, i using downL.induct (n := n) with
  | case1 l i h0 => intro _; rw [downL, dif_pos h0]
  | case2 l i h0 h1 ih =>
    intro hn
    have hp := pick_spec hn (by omega : 2 * i + 1 < n)
    rw [downL, dif_neg h0, if_pos h1, ih (by rw [swapL_len]; exact hn), swap_at (by omega) (by omega), if_neg (by omega), if_neg (by omega)]
  | case3 l i h0 h1 => intro _; rw [downL, dif_neg h0, if_neg h1]
theorem down_heap (l : List Sl) (i n : Nat) : n ≤ l.length → (∀ k, 0 < k → k < n → (k - 1) / 2 ≠ i → ¬ ltS (at0 l k) (at0 l ((k - 1) / 2))) →
    (∀ k, 0 < k → k < n → (k - 1) / 2 = i → 0 < i → ¬ ltS (at0 l k) (at0 l ((i - 1) / 2))) → IsHeap (downL l i n).1 n := by
  induction l, i using downL.induct (n := n) with
  | case1 l i h0 =>
    intro _ h _
    rw [downL, dif_pos h0]
    intro k k0 hk
    exact h k k0 hk (by omega)
  | case2 l i h0 h1 ih =>
    intro hn h hc
    obtain ⟨p1, p2, p3⟩ := pick_spec hn (by omega : 2 * i + 1 < n)
    rw [downL, dif_neg h0, if_pos h1]
    generalize pickL l i n = p at *
    have hi : i < l.length := by omega
    have hp : p < l.length := by omega
    have hlt := (lessAt_iff hp hi).1 h1
    have ih' := ih (by rw [swapL_len]; exact hn)
    have hip : i < p := by
      rcases Nat.lt_or_ge i p with h | h
      · exact h
      · exfalso
        have : p = 0 := by omega
        subst this
        have : i = 0 := by omega
        subst this
        exact ltS_irr _ hlt
    refine ih' ?_ ?_
    · intro k k0 hk hne
      rw [swap_at hi hp, swap_at hi hp, if_neg hne]
      by_cases e1 : k = p
      · subst e1
        rw [if_pos rfl, if_pos p2]
        exact ltS_asym hlt
      · rw [if_neg e1]
        by_cases e2 : k = i
        · subst e2
          rw [if_pos rfl, if_neg (by omega)]
          exact hc p (by omega) p1 p2 k0
        · rw [if_neg e2]
          by_cases e3 : (k - 1) / 2 = i
          · rw [if_pos e3]; exact p3 k k0 hk e3
          · rw [if_neg e3]; exact h k k0 hk e3
    · intro k k0 hk e _
      rw [swap_at hi hp, swap_at hi hp, p2, if_neg (by omega), if_neg (by omega), if_neg (by omega), if_pos rfl]
      exact e ▸ h k k0 hk (by omega)
  | case3 l i h0 h1 =>
    intro hn h _
    obtain ⟨p1, p2, p3⟩ := pick_spec hn (by omega : 2 * i + 1 < n)
    rw [downL, dif_neg h0, if_neg h1]
    intro k k0 hk
    by_cases e : (k - 1) / 2 = i
    · have h2 : ¬ ltS (at0 l (pickL l i n)) (at0 l i) := fun hh => h1 ((lessAt_iff (by omega) (by omega)).2 hh)
      rw [e]
      exact ltS_trans h2 (p3 k k0 hk e)
    · exact h k k0 hk e
theorem pop_spec {l : List Sl} {n : Nat} (hl : l.length = n + 1) (h : IsHeap l (n + 1)) : ∃ l', popL l n = l' ++ [at0 l 0] ∧ l'.length = n ∧ IsHeap l' n ∧ (l' ++ [at0 l 0]).Perm l := by
  have hlen := popL_len l n
  have hperm : (popL l n).Perm l := (down_perm _ 0 n (by rw [swapL_len]; omega)).trans (swap_perm (by omega) (by omega))
  have hlast : at0 (popL l n) n = at0 l 0 := by
    unfold popL
    rw [down_keep _ 0 n n (Nat.le_refl _) (by rw [swapL_len]; omega), swap_at (by omega) (by omega), if_pos rfl]
  have hheap : IsHeap (popL l n) n := by
    unfold popL
    refine down_heap _ 0 n (by rw [swapL_len]; omega) ?_ (fun k _ _ _ h0 => absurd h0 (by omega))
    intro k k0 hk hne
    rw [swap_at (by omega) (by omega), swap_at (by omega) (by omega), if_neg (by omega), if_neg (by omega), if_neg (by omega), if_neg hne]
    exact h k k0 (by omega)
  rcases List.eq_nil_or_concat (popL l n) with e | ⟨l', x, e⟩
  · rw [e, hl] at hlen; simp at hlen
  · have e' : popL l n = l' ++ [x] := by rw [e]; simp
    have hl' : l'.length = n := by rw [e', hl] at hlen; simpa using hlen
    have hx : x = at0 l 0 := by
      rw [← hlast, e']
      simp [at0, List.getD, ← hl']
    subst hx
    refine ⟨l', e', hl', ?_, e' ▸ hperm⟩
    intro k k0 hk
    have h2 := hheap k k0 hk
    rw [e'] at h2
    have g : ∀ j, j < n → at0 (l' ++ [at0 l 0]) j = at0 l' j := by
      intro j hj
      simp [at0, List.getD, List.getElem?_append_left (show j < l'.length by omega)]
    rwa [g k hk, g _ (by omega)] at h2
theorem mem_at0 {l : List Sl} {x : Sl} (h : x ∈ l) : ∃ k, k < l.length ∧ at0 l k = x := by
  obtain ⟨k, hk, e⟩ := List.mem_iff_getElem.1 h
  exact ⟨k, hk, by simp [at0, List.getD, hk, e]⟩
theorem due_spec (now : Int) : ∀ (n : Nat) (l : List Sl), l.length = n → IsHeap l n → ∃ xs, (dueL now n l).1 = xs.map (·.g) ∧ (xs ++ (dueL now n l).2).Perm l ∧
    xs.Pairwise (fun a b => ¬ ltS b a) ∧ (∀ x ∈ xs, x.when ≤ now) ∧ (∀ y ∈ (dueL now n l).2, now < y.when) ∧ IsHeap (dueL now n l).2 (dueL now n l).2.length := by
  intro n
  induction n with
  | zero =>
    intro l hl _
    have : l = [] := List.eq_nil_of_length_eq_zero hl
    subst this
    exact ⟨[], rfl, List.Perm.refl _, .nil, by simp, by simp [dueL], fun k _ hk => absurd hk (by simp [dueL])⟩
  | succ n ih =>
    intro l hl hh
    cases l with
    | nil => simp at hl
    | cons s l =>
      have hl0 : l.length = n := by simpa using hl
      have hs : at0 (s :: l) 0 = s := rfl
      have hmin : ∀ y ∈ s :: l, ¬ ltS y s := by
        intro y hy
        obtain ⟨k, hk, e⟩ := mem_at0 hy
        have := heap_min hh k (by omega)
        rwa [e, hs] at this
      by_cases hw : s.when ≤ now
      · obtain ⟨l', e1, e2, e3, e4⟩ := pop_spec hl hh
        rw [hs] at e1 e4
        obtain ⟨xs, x1, x2, x3, x4, x5, x6⟩ := ih l' e2 e3
        have e := dueL_go now s l l' s hw (by rw [hl0]; exact e1)
        rw [hl, hl0] at e
        rw [e]
        have hp : (s :: (xs ++ (dueL now n l').2)).Perm (s :: l) := (List.Perm.cons s x2).trans ((List.perm_append_singleton s l').symm.trans e4)
        refine ⟨s :: xs, by simp [x1], hp, ?_, ?_, x5, x6⟩
        · refine List.Pairwise.cons (fun y hy => ?_) x3
          exact hmin y (hp.subset (List.mem_cons_of_mem _ (List.mem_append_left _ hy)))
        · intro y hy
          rcases List.mem_cons.1 hy with e | e
          · rw [e]; exact hw
          · exact x4 y e
      · have e := dueL_stop now s l hw
        rw [hl] at e
        rw [e]
        refine ⟨[], rfl, List.Perm.refl _, .nil, by simp, ?_, by rw [hl]; exact hh⟩
        intro y hy
        have := hmin y hy
        unfold ltS at this
        omega
end Go.Proofs.Ytndldoamadmphaa
