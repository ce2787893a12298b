/- Package model: what is told of a model (Ids, Globals, Slots, Stack, Stuck); a model that is none. -/
import Derived.Test.YtndldoamadmphaaNew1
import Derived.Deep.MidRow
namespace Go.Proofs.Ytndldoamadmphaa
open Go.RowKit
def slotsL (M : Mo) (id : Int) : List Int := if 1 ≤ id ∧ id < M.sl.length then M.sl.getD id.toNat [] else []
def stackL (M : Mo) (g : Int) : List Int := if 0 ≤ g ∧ g < M.gs.length then (List.range 16).map (gorAt M g.toNat).stack else []
section
variable {w : World} {c : Col} {m : Nat} {Y : Lay} {M : Mo} {n : Nat}
theorem SlC.len_ {v : Value} {sl : List (List Int)} (h : SlC w c v sl) : ∃ A cap, v = .slice A sl.length cap := by
  obtain ⟨row, vs, h1, _, h3, _⟩ := h
  rcases h1.form with ⟨hv, h0, _⟩ | ⟨g, cap, hv, _⟩
  · have : sl.length = 0 := by rw [← h3, h0]; rfl
    exact ⟨none, 0, by rw [this]; exact hv⟩
  · exact ⟨_, _, by rw [← h3]; exact hv⟩
theorem ids_c (h : ModelAt w c m Y M) (hs : 0 < M.sl.length) : Calls Try.prog 20 #[.pointer (some ⟨m, 0, none⟩)] w fun e w' => e = .returned (.int .i64 ((M.sl.length : Int) - 1)) ∧ w = w' := by
  have c5 := h.c5
  obtain ⟨A, cap, hv⟩ := h.sl.len_
  rw [hv] at c5
  obtain ⟨row, vs, h1, _, h3, _⟩ := h.sl
  have hf := h1.fits
  rw [h3] at hf
  unfold maxLen at hf
  have hsI : (1 : Int) ≤ M.sl.length := by omega
  have hfI : (M.sl.length : Int) ≤ 9223372036854775807 := by omega
  clear h hv h1 h3 hf hs
  go_enter Try.func20, Try.ntmps20
  go_wp2
  go_ret
  exact ⟨rfl, rfl⟩
theorem Row.rdI {w : World} {row : Option Nat} {v : Value} {l : List Int} (h : Row w 3 row v (ints l)) : ∃ A cap, v = .slice A l.length cap ∧ RdF w A l.length 1 (fun i _ => l.getD i 0) ∧ (A = none → cap = 0) := by
  obtain ⟨A, cap, hv, hr⟩ := Row.rdf (l := l) h
  refine ⟨A, cap, hv, hr, fun e => ?_⟩
  subst e
  rcases h.form with ⟨h1, _⟩ | ⟨g, cap2, h1, _⟩
  · rw [hv] at h1
    injection h1
  · rw [hv] at h1
    injection h1 with h2
    cases h2
theorem globals_c (h : ModelAt w c m Y M) (hg : M.gl.length ≤ 32) : Calls Try.prog 22 #[.pointer (some ⟨m, 0, none⟩)] w fun e w' => ∃ v, e = .returned v ∧ NewInts w w' v M.gl ∧ Upd (fun _ => False) w w' := by
  have c4 := h.c4
  obtain ⟨row, h1, _⟩ := h.gl
  obtain ⟨A, cap, hv, hr, hn⟩ := h1.rdI
  have Hc := Lib.hid (cloneI_c hr (by omega) hn)
  rw [hv] at c4
  clear h h1 hv hr hn hg
  go_enter Try.func22, Try.ntmps22
  go_wp2_with (refine Hc.out.mono ?_; rintro e w1 ⟨v, rfl, h1, h2⟩)
  go_ret
  exact ⟨v, rfl, h1, h2⟩
theorem NewInts.nil_ (w : World) : NewInts w w (.slice none 0 0) [] := ⟨none, Row.nil _ _, fun k e => by cases e⟩
set_option maxHeartbeats 1000000 in
theorem slots_c (h : ModelAt w c m Y M) (ok : Good M n) (id : Int) : Calls Try.prog 23 #[.pointer (some ⟨m, 0, none⟩), .int .i64 id] w fun e w' => ∃ v, e = .returned v ∧ NewInts w w' v (slotsL M id) ∧ Upd (fun _ => False) w w' := by
  have c5 := h.c5
  unfold slotsL
  by_cases h1 : id < 1
  · rw [show (if 1 ≤ id ∧ id < M.sl.length then M.sl.getD id.toNat [] else []) = [] from if_neg (by omega)]
    clear h ok c5
    go_enter Try.func23, Try.ntmps23
    go_wp2_with fail
    go_ret
    exact ⟨_, rfl, NewInts.nil_ w, Upd.refl _ _⟩
  · obtain ⟨A, cap, hv⟩ := h.sl.len_
    by_cases h2 : (M.sl.length : Int) ≤ id
    · rw [show (if 1 ≤ id ∧ id < M.sl.length then M.sl.getD id.toNat [] else []) = [] from if_neg (by omega)]
      rw [hv] at c5
      have h1' : 1 ≤ id := by omega
      clear h ok hv h1
      go_enter Try.func23, Try.ntmps23
      go_wp2_with fail
      go_ret
      exact ⟨_, rfl, NewInts.nil_ w, Upd.refl _ _⟩
    · obtain ⟨k, rfl⟩ : ∃ k : Nat, id = k := ⟨id.toNat, by omega⟩
      rw [if_pos ⟨by omega, by omega⟩, Int.toNat_natCast]
      obtain ⟨gr, cap2, u, r, hv2, _, hgl, hc, hrow, _⟩ := h.sl.at_ (i := k) (by omega)
      obtain ⟨A3, cap3, hu, hrd, hn⟩ := hrow.rdI
      have hlen : (M.sl.getD k []).length ≤ 256 := by
        rw [List.getD]
        cases e : M.sl[k]? with
        | none => simp
        | some l => exact (ok.sl l (List.mem_of_getElem? e)).1
      have Hc := Lib.hid (cloneI_c hrd (by omega) hn)
      rw [hv2] at c5
      rw [hu] at hc
      have h1' : 1 ≤ (k : Int) := by omega
      have h2' : (k : Int) < (M.sl.length : Int) := by omega
      generalize M.sl.getD k [] = L at *
      clear h ok hv hv2 hu hrd hn hrow hlen h1 h2
      go_enter Try.func23, Try.ntmps23
      go_wp2_with (refine Hc.out.mono ?_; rintro e w1 ⟨v, rfl, h1, h2⟩)
      go_ret
      exact ⟨v, rfl, h1, h2⟩
set_option maxHeartbeats 1000000 in
theorem stack_c (h : ModelAt w c m Y M) (g : Int) : Calls Try.prog 28 #[.pointer (some ⟨m, 0, none⟩), .int .i64 g] w fun e w' => ∃ v, e = .returned v ∧ NewInts w w' v (stackL M g) ∧ Upd (fun _ => False) w w' := by
  have c3 := h.c3
  unfold stackL
  by_cases h1 : g < 0
  · rw [show (if 0 ≤ g ∧ g < M.gs.length then (List.range 16).map (gorAt M g.toNat).stack else []) = [] from if_neg (by omega)]
    clear h c3
    go_enter Try.func28, Try.ntmps28
    go_wp2_with fail
    go_ret
    exact ⟨_, rfl, NewInts.nil_ w, Upd.refl _ _⟩
  · obtain ⟨A, cap, hv⟩ := h.gs.len_
    by_cases h2 : (M.gs.length : Int) ≤ g
    · rw [show (if 0 ≤ g ∧ g < M.gs.length then (List.range 16).map (gorAt M g.toNat).stack else []) = [] from if_neg (by omega)]
      rw [hv] at c3
      have h1' : 0 ≤ g := by omega
      clear h hv h1
      go_enter Try.func28, Try.ntmps28
      go_wp2_with fail
      go_ret
      exact ⟨_, rfl, NewInts.nil_ w, Upd.refl _ _⟩
    · obtain ⟨k, rfl⟩ : ∃ k : Nat, g = k := ⟨g.toNat, by omega⟩
      rw [if_pos ⟨by omega, by omega⟩, Int.toNat_natCast]
      have hk : k < M.gs.length := by omega
      obtain ⟨gr, cap2, hgv, _, hgl, hgc⟩ := h.gs.at_ hk
      have hxb := (h.gs.g k _ (gorAt_get hk)).1
      have hrd : RdF w (some ⟨Y.gp k, 3, none⟩) 16 1 (fun i _ => ((List.range 16).map (gorAt M k).stack).getD i 0) := by
        refine ⟨by unfold maxLen; omega, fun _ => ⟨Y.gp k, 3, rfl, hxb.lt, fun i hi j hj => ?_⟩⟩
        have : j = 0 := by omega
        subst this
        rw [Nat.mul_one, Nat.add_zero, hxb.cell (3 + i), gorV_stack _ hi]
        simp [List.getD, hi]
      have Hc := Lib.hid (cloneI_c (l := (List.range 16).map (gorAt M k).stack) (cap := 16) (by simpa using hrd) (by simp) (fun e => by cases e))
      rw [hgv] at c3
      have h1' : 0 ≤ (k : Int) := by omega
      have h2' : (k : Int) < (M.gs.length : Int) := by omega
      have hxl := hxb.lt
      rw [show ((List.range 16).map (gorAt M k).stack).length = 16 by simp] at Hc
      generalize (List.range 16).map (gorAt M k).stack = L at *
      generalize Y.gp k = gq at *
      clear h hv hgv hxb hrd h1 h2
      go_enter Try.func28, Try.ntmps28
      go_wp2_with (refine Hc.out.mono ?_; rintro e w1 ⟨v, rfl, h1, h2⟩)
      go_ret
      exact ⟨v, rfl, h1, h2⟩
def stuckB (M : Mo) : Bool := decide (cntK M.st 1 = 0) && (decide (M.tm.length = 0) && decide (0 < waitsN M.wt 32))
end
theorem donil_c (w : World) (g : Int) : Calls Try.prog 16 #[.pointer none, .int .i64 g] w fun e w' => e = .returned (.tuple #[noCommit, .int .i64 1]) ∧ Upd (fun _ => False) w w' := by
  have hfin : ∀ o1 o2 o3, Upd (fun _ => False) w (((w.alloc o1).alloc o2).alloc o3) := fun o1 o2 o3 => (((Upd.refl _ _).alloc _).alloc _).alloc _
  have HF := Lib.hid hfin
  clear hfin
  go_enter Try.func16, Try.ntmps16
  go_wp2_with fail
  refine bodyPost_ret (v := .tuple #[noCommit, .int .i64 1]) (by simp [results, Try.results16, go_sem, noCommit]) rfl ⟨rfl, HF.out _ _ _⟩
theorem gsnil_c (w : World) : Calls Try.prog 26 #[.pointer none] w fun e w' => e = .returned (.int .i64 0) ∧ w = w' := by
  go_enter Try.func26, Try.ntmps26
  go_wp2
  go_ret
  exact ⟨rfl, rfl⟩
theorem idsnil_c (w : World) : Calls Try.prog 20 #[.pointer none] w fun e w' => e = .returned (.int .i64 0) ∧ w = w' := by
  go_enter Try.func20, Try.ntmps20
  go_wp2
  go_ret
  exact ⟨rfl, rfl⟩
theorem reachnil_c (w : World) : Calls Try.prog 19 #[.pointer none] w fun e w' => e = .returned (.slice none 0 0) ∧ w = w' := by
  go_enter Try.func19, Try.ntmps19
  go_wp2
  go_ret
  exact ⟨rfl, rfl⟩
theorem stucknil_c (w : World) : Calls Try.prog 24 #[.pointer none] w fun e w' => e = .returned (.bool false) ∧ w = w' := by
  go_enter Try.func24, Try.ntmps24
  go_wp2
  go_ret
  exact ⟨rfl, rfl⟩
section
variable {w : World} {c : Col} {m : Nat} {Y : Lay} {M : Mo} {n : Nat}
set_option maxHeartbeats 2000000 in
theorem stuck_c (h : ModelAt w c m Y M) (hl : ∀ i, i < 32 → (M.wt i).length < 900000) : Calls Try.prog 24 #[.pointer (some ⟨m, 0, none⟩)] w fun e w' => e = .returned (.bool (stuckB M)) ∧ w = w' := by
  have c2 := h.c2
  have c6 := h.c6
  have c7 := h.c7
  obtain ⟨row, h1, _⟩ := h.st
  obtain ⟨row2, v2, h2, _⟩ := h.tm
  obtain ⟨vs, rs, h3, _⟩ := h.wt
  have Hc := Lib.hid (count_c h1 1)
  have Ht := Lib.hid (tlen_c h2)
  have Hw := Lib.hid (wlen_c h3 hl)
  unfold stuckB
  clear h h1 h2 h3 hl
  generalize cntK M.st 1 = a at *
  generalize M.tm.length = b at *
  generalize waitsN M.wt 32 = d at *
  by_cases ha : a = 0
  · subst ha
    by_cases hb : b = 0
    · subst hb
      go_enter Try.func24, Try.ntmps24
      go_wp2_with (first | (go_at_call 46; refine Hc.out.mono ?_; rintro e w1 ⟨rfl, rfl⟩) | (go_at_call 47; refine Ht.out.mono ?_; rintro e w1 ⟨rfl, rfl⟩) | (go_at_call 48; refine Hw.out.mono ?_; rintro e w1 ⟨rfl, rfl⟩))
      go_ret
      exact ⟨by simp, rfl⟩
    · have hbd : ((b : Int) == 0) = false := by simp; omega
      have hbe : decide (b = 0) = false := by simpa using hb
      clear hb
      go_enter Try.func24, Try.ntmps24
      go_wp2_with (first | (go_at_call 46; refine Hc.out.mono ?_; rintro e w1 ⟨rfl, rfl⟩) | (go_at_call 47; refine Ht.out.mono ?_; rintro e w1 ⟨rfl, rfl⟩) | (go_at_call 48; refine Hw.out.mono ?_; rintro e w1 ⟨rfl, rfl⟩))
      go_ret
      exact ⟨by simp [hbe], rfl⟩
  · have had : (a == 0) = false := by simpa using ha
    have hae : decide (a = 0) = false := by simpa using ha
    clear ha
    go_enter Try.func24, Try.ntmps24
    go_wp2_with (first | (go_at_call 46; refine Hc.out.mono ?_; rintro e w1 ⟨rfl, rfl⟩) | (go_at_call 47; refine Ht.out.mono ?_; rintro e w1 ⟨rfl, rfl⟩) | (go_at_call 48; refine Hw.out.mono ?_; rintro e w1 ⟨rfl, rfl⟩))
    go_ret
    exact ⟨by simp [hae], rfl⟩
end
end Go.Proofs.Ytndldoamadmphaa
