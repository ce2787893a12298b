/- The plain law of TimerOrder, and the timers beside a row of bools. -/
import Derived.Test.YtgamaaeippdomaaTmH
import Derived.Deep.OwnRows
namespace Go.Proofs.Ytgamaaeippdomaa
open Go.RowKit

def baseF (V : Nat → Int) (I : Nat → Bool) (i : Nat) : List Sl := ((List.range i).filter I).map fun k => ⟨V k, (k : Int), (k : Int) + 1⟩
def upB (I : Nat → Bool) (k : Nat) (b : Bool) : Nat → Bool := fun j => if j = k then b else I j
theorem baseF_mem {V : Nat → Int} {I : Nat → Bool} {i : Nat} {x : Sl} : x ∈ baseF V I i ↔ ∃ k, k < i ∧ I k = true ∧ x = ⟨V k, (k : Int), (k : Int) + 1⟩ := by
  unfold baseF
  rw [List.mem_map]
  constructor
  · rintro ⟨k, hk, e⟩
    rw [List.mem_filter, List.mem_range] at hk
    exact ⟨k, hk.1, hk.2, e.symm⟩
  · rintro ⟨k, h1, h2, e⟩
    exact ⟨k, by rw [List.mem_filter, List.mem_range]; exact ⟨h1, h2⟩, e.symm⟩
theorem baseF_add (V : Nat → Int) (I : Nat → Bool) (i : Nat) : baseF V (upB I i true) (i + 1) = baseF V I i ++ [⟨V i, (i : Int), (i : Int) + 1⟩] := by
  unfold baseF
  rw [List.range_succ, List.filter_append, List.map_append]
  congr 2
  · apply List.filter_congr
    intro k hk
    rw [List.mem_range] at hk
    unfold upB
    rw [if_neg (by omega)]
  · simp [upB]
theorem baseF_off (V : Nat → Int) (I : Nat → Bool) (k : Nat) (hI : I k = true) : ∀ i, k < i → (baseF V (upB I k false) i ++ [(⟨V k, (k : Int), (k : Int) + 1⟩ : Sl)]).Perm (baseF V I i) := by
  intro i
  induction i with
  | zero => intro h; omega
  | succ i ih =>
    intro h
    have e1 : baseF V I (i + 1) = baseF V I i ++ (if I i = true then [⟨V i, (i : Int), (i : Int) + 1⟩] else []) := by
      unfold baseF
      rw [List.range_succ, List.filter_append, List.map_append]
      congr 1
      by_cases hi : I i = true <;> simp [hi]
    have e2 : baseF V (upB I k false) (i + 1) = baseF V (upB I k false) i ++ (if upB I k false i = true then [⟨V i, (i : Int), (i : Int) + 1⟩] else []) := by
      unfold baseF
      rw [List.range_succ, List.filter_append, List.map_append]
      congr 1
      by_cases hi : upB I k false i = true <;> simp [hi]
    rw [e1, e2]
    by_cases hk : k = i
    · subst hk
      have e3 : upB I k false k = false := by simp [upB]
      have e4 : baseF V (upB I k false) k = baseF V I k := by
        unfold baseF
        congr 1
        apply List.filter_congr
        intro j hj
        rw [List.mem_range] at hj
        unfold upB
        rw [if_neg (by omega)]
      rw [e3, hI, e4]
      simp
    · have e3 : upB I k false i = I i := by unfold upB; rw [if_neg (fun e => hk e.symm)]
      rw [e3]
      have h1 := ih (by omega)
      rw [List.append_assoc]
      refine (List.Perm.append_left _ List.perm_append_comm).trans ?_
      rw [← List.append_assoc]
      exact h1.append_right _
theorem upB_same (I : Nat → Bool) (k : Nat) (b : Bool) (h : I k = b) : upB I k b = I := by
  funext j
  unfold upB
  split
  · next e => rw [e, h]
  · rfl
theorem baseF_del {V : Nat → Int} {I : Nat → Bool} {i k : Nat} {l l2 : List Sl} {b : Bool} (hp : l.Perm (baseF V I i)) (hk : k < i) (hd : DelPost l k b l2) : b = I k ∧ l2.Perm (baseF V (upB I k false) i) := by
  cases hI : I k with
  | true =>
    rcases hd with ⟨_, _, hn⟩ | ⟨hb, x, hx, hg, _, hp2⟩
    · exact absurd rfl (hn _ (hp.symm.subset (baseF_mem.2 ⟨k, hk, hI, rfl⟩)))
    · refine ⟨hb, ?_⟩
      obtain ⟨j, hj, _, e⟩ := baseF_mem.1 (hp.subset hx)
      rw [e] at hg
      simp only at hg
      have hjk : j = k := by omega
      subst hjk
      subst e
      exact (List.perm_append_right_iff _).1 ((hp2.trans hp).trans (baseF_off V I j hI i hj).symm)
  | false =>
    rcases hd with ⟨hb, e, _⟩ | ⟨_, x, hx, hg, _, _⟩
    · refine ⟨hb, ?_⟩
      rw [e, upB_same I k false hI]
      exact hp
    · exfalso
      obtain ⟨j, hj, hj2, e⟩ := baseF_mem.1 (hp.subset hx)
      rw [e] at hg
      simp only at hg
      have hjk : j = k := by omega
      rw [hjk, hI] at hj2
      cases hj2
theorem baseF_ne (V : Nat → Int) (I : Nat → Bool) (n : Nat) : (baseF V I n).Pairwise (fun a b => a.seq ≠ b.seq) := by
  unfold baseF
  rw [List.pairwise_map]
  refine ((List.nodup_range (n := n)).filter _).imp ?_
  intro a b h
  simp
  omega
theorem sorted_eq {V : Nat → Int} {I : Nat → Bool} {n : Nat} {a b : List Sl} (ha : a.Perm (baseF V I n)) (hb : b.Perm (baseF V I n)) (sa : a.Pairwise (fun a b => ¬ ltS b a)) (sb : b.Pairwise (fun a b => ¬ ltS b a)) : a = b := by
  refine List.Perm.eq_of_pairwise ?_ sa sb (ha.trans hb.symm)
  intro x y hx hy h1 h2
  obtain ⟨i, hi, _, ex⟩ := baseF_mem.1 (ha.subset hx)
  obtain ⟨j, hj, _, ey⟩ := baseF_mem.1 (hb.subset hy)
  unfold ltS at h1 h2
  rw [ex, ey] at h1 h2 ⊢
  simp only at h1 h2
  have : i = j := by omega
  rw [this]
theorem sorted_lt {V : Nat → Int} {I : Nat → Bool} {n : Nat} {a : List Sl} (ha : a.Perm (baseF V I n)) (sa : a.Pairwise (fun a b => ¬ ltS b a)) {i j : Nat} (hij : i < j) (hj : j < a.length) : ltS (at0 a i) (at0 a j) := by
  have hne : a.Pairwise (fun a b => a.seq ≠ b.seq) := (ha.pairwise_iff (fun h => Ne.symm h)).2 (baseF_ne V I n)
  have h3 := List.pairwise_iff_getElem.1 sa i j (by omega) hj hij
  have h4 := List.pairwise_iff_getElem.1 hne i j (by omega) hj hij
  have ea : ∀ i (hi : i < a.length), a[i] = at0 a i := fun i hi => by simp [at0, List.getD, hi]
  rw [ea j hj, ea i (by omega)] at h3 h4
  have hx := ha.subset (at0_mem (show i < a.length by omega))
  have hy := ha.subset (at0_mem hj)
  unfold ltS at h3 ⊢
  omega

/-- A row of bools. -/
def boolsV (I : Nat → Bool) (n : Nat) : Array Value := ((List.range n).map fun k => Value.bool (I k)).toArray
theorem boolsV_size (I : Nat → Bool) (n : Nat) : (boolsV I n).size = n := by simp [boolsV]
theorem boolsV_get (I : Nat → Bool) {n k : Nat} (h : k < n) : (boolsV I n)[k]? = some (.bool (I k)) := by simp [boolsV, h]
theorem boolsV_set (I : Nat → Bool) (n k : Nat) (b : Bool) : (boolsV I n).setIfInBounds k (.bool b) = boolsV (upB I k b) n := by
  apply Array.ext
  · simp [boolsV]
  · intro j h1 h2
    have hj : j < n := by simpa [boolsV] using h2
    rw [Array.getElem_setIfInBounds]
    · simp only [boolsV, List.getElem_toArray, List.getElem_map, List.getElem_range, upB]
      by_cases e : k = j
      · subst e; simp
      · rw [if_neg e, if_neg (fun h => e h.symm)]
    · rw [boolsV_size]; exact hj
theorem boolsV_made (n : Nat) : madeCells #[Value.bool false] n = boolsV (fun _ => false) n := by
  apply Array.ext
  · rw [size_madeCells, boolsV_size]
    try simp
  · intro j h1 h2
    simp [madeCells, boolsV, Nat.mod_one]

/-- Timers, and a row of bools d, made since w. -/
def TmD (w : World) (t d n : Nat) (made : Int) (wr : World) (l : List Sl) (I : Nat → Bool) : Prop :=
  ∃ row v, HAt wr t row v l made ∧ Upd (fun _ => False) w wr ∧ w.heap.size ≤ t ∧ (∀ k, row = some k → w.heap.size ≤ k ∧ k ≠ d) ∧ IsHeap l l.length ∧ Blk wr d 4 (boolsV I n) ∧ t ≠ d ∧ w.heap.size ≤ d
section
variable {w wr w' : World} {t d n : Nat} {made : Int} {l : List Sl} {I : Nat → Bool}
theorem TmD.upd (h : TmD w t d n made wr l I) (hu : Upd (fun _ => False) wr w') : TmD w t d n made w' l I := by
  obtain ⟨row, v, h1, h2, h3, h4, h5, h6, h7, h8⟩ := h
  exact ⟨row, v, h1.upd hu (fun e => e) (fun _ _ e => e), h2.trans hu (fun _ e => .inl e), h3, h4, h5, h6.upd hu (fun e => e), h7, h8⟩
theorem TmD.u (h : TmD w t d n made wr l I) : Upd (fun _ => False) w wr := by
  obtain ⟨row, v, h1, h2, h3, h4, h5, h6, h7, h8⟩ := h
  exact h2
theorem TmD.blk (h : TmD w t d n made wr l I) : Blk wr d 4 (boolsV I n) := by
  obtain ⟨row, v, h1, h2, h3, h4, h5, h6, h7, h8⟩ := h
  exact h6
theorem TmD.set_ (h : TmD w t d n made wr l I) (k : Nat) (b : Bool) : TmD w t d n made (wr.setCell ⟨d, k, none⟩ (.bool b)) l (upB I k b) := by
  obtain ⟨row, v, h1, h2, h3, h4, h5, h6, h7, h8⟩ := h
  have hu : Upd (fun k => k = d) wr (wr.setCell ⟨d, k, none⟩ (.bool b)) := (Upd.refl (fun k => k = d) wr).setCell (p := ⟨d, k, none⟩) (.inl rfl) _
  refine ⟨row, v, h1.upd hu h7 (fun k hk => (h4 k hk).2), h2.trans hu (fun i e => .inr (e ▸ h8)), h3, h4, h5, ?_, h7, h8⟩
  rw [← boolsV_set]
  exact h6.set_ k _
theorem tlen_d (h : TmD w t d n made wr l I) : Calls Try.prog 13 #[.pointer (some ⟨t, 0, none⟩)] wr fun e w' => e = .returned (.int .i64 l.length) ∧ wr = w' := by
  obtain ⟨row, v, h1, h2, h3, h4, h5, h6, h7, h8⟩ := h
  exact tlen_c h1
theorem tadd_d {made : Nat} (h : TmD w t d n made wr l I) (hl : l.length < 900000) (hm : made < 900000) (when g : Int) :
    Calls Try.prog 10 #[.pointer (some ⟨t, 0, none⟩), .int .i64 when, .int .i64 g] wr fun e w' => e = .returned (.tuple #[]) ∧ TmD w t d n ((made : Int) + 1) w' (pushL l ⟨when, g, (made : Int) + 1⟩) I := by
  obtain ⟨row, v, h1, h2, h3, h4, h5, h6, h7, h8⟩ := h
  refine (tadd_c h1 hl hm when g).mono ?_
  rintro e w' ⟨rfl, row', v', k1, k2, k3⟩
  have hs := h2.size
  have hd := h6.lt
  refine ⟨rfl, row', v', k1, h2.trans k2 (fun i hi => .inr ?_), h3, fun k hk => ?_, by rw [pushL_len]; exact push_heap h5 _, h6.upd k2 ?_, h7, h8⟩
  · rcases hi with rfl | hi
    · exact h3
    · exact (h4 i hi).1
  · rcases k3 k hk with e | e
    · exact h4 k e
    · exact ⟨by omega, by omega⟩
  · rintro (e | e)
    · exact h7 e.symm
    · exact (h4 d e).2 rfl
theorem tdel_d (h : TmD w t d n made wr l I) (hl : l.length < 900000) (g : Int) :
    Calls Try.prog 14 #[.pointer (some ⟨t, 0, none⟩), .int .i64 g] wr fun e w' => ∃ b l2, e = .returned (.bool b) ∧ DelPost l g b l2 ∧ TmD w t d n made w' l2 I := by
  obtain ⟨row, v, h1, h2, h3, h4, h5, h6, h7, h8⟩ := h
  refine (tdel_c h1 hl h5 g).mono ?_
  rintro e w' ⟨b, v', l2, rfl, hd, k1, k2, k3⟩
  refine ⟨b, l2, rfl, hd, row, v', k1, h2.trans k3 (fun i hi => .inr ?_), h3, h4, k2, h6.upd k3 ?_, h7, h8⟩
  · rcases hi with rfl | hi
    · exact h3
    · exact (h4 i hi).1
  · rintro (e | e)
    · exact h7 e.symm
    · exact (h4 d e).2 rfl
theorem tall_d (h : TmD w t d n made wr l I) (hl : l.length < 900000) :
    Calls Try.prog 19 #[.pointer (some ⟨t, 0, none⟩)] wr fun e w' => ∃ o l', e = .returned o ∧ l'.Perm l ∧ l'.Pairwise (fun a b => ¬ ltS b a) ∧ NewTm wr w' o l' ∧ TmD w t d n made w' l I := by
  obtain ⟨row, v, h1, h2, h3, h4, h5, h6, h7, h8⟩ := h
  refine (tall_c h1 hl).mono ?_
  rintro e w' ⟨o, l', rfl, p1, p2, hn, hu⟩
  exact ⟨o, l', rfl, p1, p2, hn, TmD.upd ⟨row, v, h1, h2, h3, h4, h5, h6, h7, h8⟩ hu⟩
/-- .. none of whose blocks lies in S. -/
def TmS (w : World) (t d n : Nat) (made : Int) (wr : World) (l : List Sl) (I : Nat → Bool) (S : Nat → Prop) : Prop :=
  ∃ row v, HAt wr t row v l made ∧ Upd (fun _ => False) w wr ∧ w.heap.size ≤ t ∧ (∀ k, row = some k → (w.heap.size ≤ k ∧ k ≠ d) ∧ ¬ S k) ∧ IsHeap l l.length ∧ Blk wr d 4 (boolsV I n) ∧ t ≠ d ∧ w.heap.size ≤ d ∧ ¬ S t
theorem TmS.toD {S : Nat → Prop} (h : TmS w t d n made wr l I S) : TmD w t d n made wr l I := by
  obtain ⟨row, v, h1, h2, h3, h4, h5, h6, h7, h8, _⟩ := h
  exact ⟨row, v, h1, h2, h3, fun k hk => (h4 k hk).1, h5, h6, h7, h8⟩
theorem TmS.upd {S : Nat → Prop} (h : TmS w t d n made wr l I S) (hu : Upd (fun _ => False) wr w') : TmS w t d n made w' l I S := by
  obtain ⟨row, v, h1, h2, h3, h4, h5, h6, h7, h8, h9⟩ := h
  exact ⟨row, v, h1.upd hu (fun e => e) (fun _ _ e => e), h2.trans hu (fun _ e => .inl e), h3, h4, h5, h6.upd hu (fun e => e), h7, h8, h9⟩
theorem tall_s (h : TmD w t d n made wr l I) (hl : l.length < 900000) :
    Calls Try.prog 19 #[.pointer (some ⟨t, 0, none⟩)] wr fun e w' => ∃ o l', e = .returned o ∧ l'.Perm l ∧ l'.Pairwise (fun a b => ¬ ltS b a) ∧ NewTm wr w' o l' ∧ TmS w t d n made w' l I (fun k => wr.heap.size ≤ k) := by
  obtain ⟨row, v, h1, h2, h3, h4, h5, h6, h7, h8⟩ := h
  have htl := h1.blk.lt
  have hrl := RowN.lt h1.row
  refine (tall_c h1 hl).mono ?_
  rintro e w' ⟨o, l', rfl, p1, p2, hn, hu⟩
  exact ⟨o, l', rfl, p1, p2, hn, TmS.upd ⟨row, v, h1, h2, h3, fun k hk => ⟨h4 k hk, by have := hrl k hk; omega⟩, h5, h6, h7, h8, by omega⟩ hu⟩
theorem tdue_s {S : Nat → Prop} (h : TmS w t d n made wr l I S) (hl : l.length < 900000) (now : Int) :
    Calls Try.prog 11 #[.pointer (some ⟨t, 0, none⟩), .int .i64 now] wr fun e w' => ∃ o xs l2, e = .returned o ∧ NewRow wr w' 3 o (ints (xs.map (·.g))) ∧ TmH w t made w' l2 ∧ DuePost l now xs l2 ∧ Upd (fun k => ¬ S k) wr w' := by
  obtain ⟨row, v, h1, h2, h3, h4, h5, h6, h7, h8, h9⟩ := h
  obtain ⟨xs, x1, x2, x3, x4, x5, x6⟩ := due_spec now l.length l rfl h5
  refine (tdue_c h1 hl now).mono ?_
  rintro e w' ⟨o, v', rfl, k1, k2, k3⟩
  rw [x1] at k1
  refine ⟨o, xs, _, rfl, k1, ⟨⟨row, v', k2, h2.trans k3 (fun i hi => .inr ?_), h3, fun k hk => (h4 k hk).1.1⟩, x6⟩, ⟨x2, x3, x4, x5⟩, k3.mono (fun i hi => .inl ?_)⟩
  · rcases hi with rfl | hi
    · exact h3
    · exact (h4 i hi).1.1
  · rcases hi with rfl | hi
    · exact h9
    · exact (h4 i hi).2
theorem TmD.tm (h : TmD w t d n made wr l I) : TmH w t made wr l := by
  obtain ⟨row, v, h1, h2, h3, h4, h5, h6, h7, h8⟩ := h
  exact ⟨⟨row, v, h1, h2, h3, fun k hk => (h4 k hk).1⟩, h5⟩
end
end Go.Proofs.Ytgamaaeippdomaa
