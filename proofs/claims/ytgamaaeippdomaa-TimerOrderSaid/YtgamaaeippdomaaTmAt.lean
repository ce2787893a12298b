/- The timers of a law: made by the law itself, beside whatever lay there. -/
import Derived.Test.YtgamaaeippdomaaTmTold
namespace Go.Proofs.Ytgamaaeippdomaa
open Go.RowKit

theorem u64_tmod (a m : Int) (hm : 0 < m) : 0 ≤ (IntKind.u64.wrap a).tmod m ∧ (IntKind.u64.wrap a).tmod m < m := by
  have h : 0 ≤ IntKind.u64.wrap a := by rw [IntKind.wrap_u64]; omega
  rw [Int.tmod_eq_emod_of_nonneg h]
  exact ⟨Int.emod_nonneg _ (by omega), Int.emod_lt_of_pos _ hm⟩
/-- int(uint(a) % m). -/
def umod (a : Int) (m : Nat) : Nat := ((IntKind.u64.wrap a).tmod m).toNat
theorem umod_lt (a : Int) (m : Nat) (hm : 0 < m) : umod a m < m := by
  have := u64_tmod a m (by omega)
  unfold umod
  omega
theorem umod_eq (a : Int) (m : Nat) (hm : 0 < m) : (IntKind.u64.wrap a).tmod m = (umod a m : Int) := by
  have := u64_tmod a m (by omega)
  unfold umod
  omega
theorem umod_w64 (a : Int) (m : Nat) (mI : Int) (hI : mI = m) (hm : 0 < m) (hm2 : m ≤ 1000000) : wrap64 ((IntKind.u64.wrap a).tmod mI) = (umod a m : Int) := by
  subst hI
  have := umod_lt a m hm
  rw [umod_eq a m hm]
  unfold wrap64
  omega

/-- Timers that were made since w. -/
def TmAt (w : World) (t : Nat) (made : Int) (wr : World) (l : List Sl) : Prop :=
  ∃ row v, HAt wr t row v l made ∧ Upd (fun _ => False) w wr ∧ w.heap.size ≤ t ∧ ∀ k, row = some k → w.heap.size ≤ k
theorem TmAt.upd {w wr w' : World} {t : Nat} {made : Int} {l : List Sl} (h : TmAt w t made wr l) (hu : Upd (fun _ => False) wr w') : TmAt w t made w' l := by
  obtain ⟨row, v, h1, h2, h3, h4⟩ := h
  exact ⟨row, v, h1.upd hu (fun e => e) (fun _ _ e => e), h2.trans hu (fun _ e => .inl e), h3, h4⟩
theorem TmAt.u {w wr : World} {t : Nat} {made : Int} {l : List Sl} (h : TmAt w t made wr l) : Upd (fun _ => False) w wr := by
  obtain ⟨row, v, h1, h2, h3, h4⟩ := h
  exact h2
theorem tnew_a {w wr : World} (hu : Upd (fun _ => False) w wr) : Calls Try.prog 9 #[] wr fun e w' => e = .returned (.pointer (some ⟨wr.heap.size, 0, none⟩)) ∧ TmAt w wr.heap.size 0 w' [] :=
  (tnew_c wr).mono fun e w' ⟨he, h1, u1⟩ => ⟨he, none, _, h1, hu.trans u1 (fun _ h => .inl h), hu.size, fun k hk => by cases hk⟩
theorem tadd_a {w wr : World} {t : Nat} {made : Nat} {l : List Sl} (h : TmAt w t made wr l) (hl : l.length < 900000) (hm : made < 900000) (when g : Int) :
    Calls Try.prog 10 #[.pointer (some ⟨t, 0, none⟩), .int .i64 when, .int .i64 g] wr fun e w' => e = .returned (.tuple #[]) ∧ TmAt w t ((made : Int) + 1) w' (pushL l ⟨when, g, ((made : Int) + 1)⟩) := by
  obtain ⟨row, v, h1, h2, h3, h4⟩ := h
  refine (tadd_c h1 hl hm when g).mono ?_
  rintro e w' ⟨rfl, row', v', k1, k2, k3⟩
  have hs := h2.size
  refine ⟨rfl, row', v', k1, h2.trans k2 (fun i hi => .inr ?_), h3, fun k hk => ?_⟩
  · rcases hi with rfl | hi
    · exact h3
    · exact h4 i hi
  · rcases k3 k hk with e | e
    · exact h4 k e
    · omega
theorem tdue_a {w wr : World} {t : Nat} {made : Int} {l : List Sl} (h : TmAt w t made wr l) (hl : l.length < 900000) (now : Int) :
    Calls Try.prog 11 #[.pointer (some ⟨t, 0, none⟩), .int .i64 now] wr fun e w' => ∃ o, e = .returned o ∧ NewRow wr w' 3 o (ints (dueL now l.length l).1) ∧ TmAt w t made w' (dueL now l.length l).2 := by
  obtain ⟨row, v, h1, h2, h3, h4⟩ := h
  refine (tdue_c h1 hl now).mono ?_
  rintro e w' ⟨o, v', rfl, k1, k2, k3⟩
  refine ⟨o, rfl, k1, row, v', k2, h2.trans k3 (fun i hi => .inr ?_), h3, h4⟩
  rcases hi with rfl | hi
  · exact h3
  · exact h4 i hi
theorem tnext_a {w wr : World} {t : Nat} {made : Int} {l : List Sl} (h : TmAt w t made wr l) :
    Calls Try.prog 12 #[.pointer (some ⟨t, 0, none⟩)] wr fun e w' => e = .returned (.tuple #[.int .i64 (nextL l).1, .bool (nextL l).2]) ∧ wr = w' := by
  obtain ⟨row, v, h1, h2, h3, h4⟩ := h
  exact tnext_c h1
theorem tlen_a {w wr : World} {t : Nat} {made : Int} {l : List Sl} (h : TmAt w t made wr l) :
    Calls Try.prog 13 #[.pointer (some ⟨t, 0, none⟩)] wr fun e w' => e = .returned (.int .i64 l.length) ∧ wr = w' := by
  obtain ⟨row, v, h1, h2, h3, h4⟩ := h
  exact tlen_c h1
end Go.Proofs.Ytgamaaeippdomaa
