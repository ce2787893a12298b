/- The timers of a law, a heap: Add, Due, Del, All in one predicate. -/
import Derived.Test.YtgamaaeippdomaaTmDel2
namespace Go.Proofs.Ytgamaaeippdomaa
open Go.RowKit

/-- Timers that were made since w, a heap. -/
def TmH (w : World) (t : Nat) (made : Int) (wr : World) (l : List Sl) : Prop := TmAt w t made wr l ∧ IsHeap l l.length
theorem TmH.upd {w wr w' : World} {t : Nat} {made : Int} {l : List Sl} (h : TmH w t made wr l) (hu : Upd (fun _ => False) wr w') : TmH w t made w' l := ⟨h.1.upd hu, h.2⟩
theorem TmH.u {w wr : World} {t : Nat} {made : Int} {l : List Sl} (h : TmH w t made wr l) : Upd (fun _ => False) w wr := h.1.u
theorem tnew_h {w wr : World} (hu : Upd (fun _ => False) w wr) : Calls Try.prog 9 #[] wr fun e w' => e = .returned (.pointer (some ⟨wr.heap.size, 0, none⟩)) ∧ TmH w wr.heap.size 0 w' [] :=
  (tnew_a hu).mono fun _ _ ⟨he, h⟩ => ⟨he, h, fun k _ hk => absurd hk (by simp)⟩
theorem tadd_h {w wr : World} {t : Nat} {made : Nat} {l : List Sl} (h : TmH w t made wr l) (hl : l.length < 900000) (hm : made < 900000) (when g : Int) :
    Calls Try.prog 10 #[.pointer (some ⟨t, 0, none⟩), .int .i64 when, .int .i64 g] wr fun e w' => e = .returned (.tuple #[]) ∧ ∃ l2, TmH w t ((made : Int) + 1) w' l2 ∧ l2.Perm (l ++ [⟨when, g, (made : Int) + 1⟩]) :=
  (tadd_a h.1 hl hm when g).mono fun _ _ ⟨he, h1⟩ => ⟨he, _, ⟨h1, by rw [pushL_len]; exact push_heap h.2 _⟩, push_perm _ _⟩
/-- What Due tells and leaves. -/
structure DuePost (l : List Sl) (now : Int) (xs l2 : List Sl) : Prop where
  perm : (xs ++ l2).Perm l
  sorted : xs.Pairwise (fun a b => ¬ ltS b a)
  due : ∀ x ∈ xs, x.when ≤ now
  left : ∀ y ∈ l2, now < y.when
theorem tdue_h {w wr : World} {t : Nat} {made : Int} {l : List Sl} (h : TmH w t made wr l) (hl : l.length < 900000) (now : Int) :
    Calls Try.prog 11 #[.pointer (some ⟨t, 0, none⟩), .int .i64 now] wr fun e w' => ∃ o xs l2, e = .returned o ∧ NewRow wr w' 3 o (ints (xs.map (·.g))) ∧ TmH w t made w' l2 ∧ DuePost l now xs l2 := by
  obtain ⟨xs, x1, x2, x3, x4, x5, x6⟩ := due_spec now l.length l rfl h.2
  refine (tdue_a h.1 hl now).mono ?_
  rintro e w' ⟨o, rfl, h1, h2⟩
  rw [x1] at h1
  exact ⟨o, xs, _, rfl, h1, ⟨h2, x6⟩, x2, x3, x4, x5⟩
theorem tnext_h {w wr : World} {t : Nat} {made : Int} {l : List Sl} (h : TmH w t made wr l) :
    Calls Try.prog 12 #[.pointer (some ⟨t, 0, none⟩)] wr fun e w' => e = .returned (.tuple #[.int .i64 (nextL l).1, .bool (nextL l).2]) ∧ wr = w' := tnext_a h.1
theorem tlen_h {w wr : World} {t : Nat} {made : Int} {l : List Sl} (h : TmH w t made wr l) :
    Calls Try.prog 13 #[.pointer (some ⟨t, 0, none⟩)] wr fun e w' => e = .returned (.int .i64 l.length) ∧ wr = w' := tlen_a h.1
theorem tdel_h {w wr : World} {t : Nat} {made : Int} {l : List Sl} (h : TmH w t made wr l) (hl : l.length < 900000) (g : Int) :
    Calls Try.prog 14 #[.pointer (some ⟨t, 0, none⟩), .int .i64 g] wr fun e w' => ∃ b l2, e = .returned (.bool b) ∧ DelPost l g b l2 ∧ TmH w t made w' l2 := by
  obtain ⟨⟨row, v, h1, h2, h3, h4⟩, hh⟩ := h
  refine (tdel_c h1 hl hh g).mono ?_
  rintro e w' ⟨b, v', l2, rfl, hd, k1, k2, k3⟩
  refine ⟨b, l2, rfl, hd, ⟨row, v', k1, h2.trans k3 (fun i hi => .inr ?_), h3, h4⟩, k2⟩
  rcases hi with rfl | hi
  · exact h3
  · exact h4 i hi
theorem tall_h {w wr : World} {t : Nat} {made : Int} {l : List Sl} (h : TmH w t made wr l) (hl : l.length < 900000) :
    Calls Try.prog 19 #[.pointer (some ⟨t, 0, none⟩)] wr fun e w' => ∃ o l', e = .returned o ∧ l'.Perm l ∧ l'.Pairwise (fun a b => ¬ ltS b a) ∧ NewTm wr w' o l' ∧ TmH w t made w' l := by
  obtain ⟨⟨row, v, h1, h2, h3, h4⟩, hh⟩ := h
  refine (tall_c h1 hl).mono ?_
  rintro e w' ⟨o, l', rfl, p1, p2, hn, hu⟩
  exact ⟨o, l', rfl, p1, p2, hn, TmH.upd ⟨⟨row, v, h1, h2, h3, h4⟩, hh⟩ hu⟩
theorem next_min {l : List Sl} (hh : IsHeap l l.length) (h0 : 0 < l.length) : (nextL l).2 = true ∧ (∃ x ∈ l, x.when = (nextL l).1) ∧ ∀ x ∈ l, (nextL l).1 ≤ x.when := by
  cases l with
  | nil => simp at h0
  | cons s l =>
    refine ⟨rfl, ⟨s, by simp, rfl⟩, fun x hx => ?_⟩
    obtain ⟨k, hk, e⟩ := mem_at0 hx
    have := heap_min hh k hk
    rw [e] at this
    have e0 : at0 (s :: l) 0 = s := rfl
    rw [e0] at this
    unfold ltS at this
    show s.when ≤ x.when
    omega
theorem DuePost.countP {l xs l2 : List Sl} {now : Int} (h : DuePost l now xs l2) (p : Sl → Bool) : xs.countP p = l.countP (fun s => p s && decide (s.when ≤ now)) := by
  rw [← h.perm.countP_eq, List.countP_append]
  have e1 : xs.countP (fun s => p s && decide (s.when ≤ now)) = xs.countP p := List.countP_congr fun x hx => by simp [h.due x hx]
  have e2 : l2.countP (fun s => p s && decide (s.when ≤ now)) = 0 := List.countP_eq_zero.2 fun x hx => by have := h.left x hx; simp; omega
  rw [e1, e2]
  rfl
end Go.Proofs.Ytgamaaeippdomaa
