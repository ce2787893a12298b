/- Contracts of package state: Move where it may be. -/
import Derived.Test.YtndldoamadmphaaState4
namespace Go.Proofs.Ytndldoamadmphaa
open Go.RowKit

theorem move_fin {w1 : World} {a b i : Nat} {l : List Int} {f t : Int} (h : StAt w1 a (some b) l) (hi : i < l.length) (hf : l.getD i 0 = f) (hft : mayB f t = true)
    (p q : Addr) (hp : p = ⟨a, 1 + f.toNat, none⟩) (hq : q = ⟨a, 1 + t.toNat, none⟩) :
    StAt (((((w1.setCell p (.int .i64 ((cnt l f : Int) - 1))).drew).setCell q (.int .i64 ((cnt l t : Int) + 1))).drew).setCell ⟨b, i, none⟩ (.int .i64 t)) a (some b) (l.set i t) ∧
    Upd (own1 a (some b)) w1 (((((w1.setCell p (.int .i64 ((cnt l f : Int) - 1))).drew).setCell q (.int .i64 ((cnt l t : Int) + 1))).drew).setCell ⟨b, i, none⟩ (.int .i64 t)) := by
  have hba : b ≠ a := fun e => h.ne (by rw [e])
  have hu : Upd (own1 a (some b)) w1 (((((w1.setCell p (.int .i64 ((cnt l f : Int) - 1))).drew).setCell q (.int .i64 ((cnt l t : Int) + 1))).drew).setCell ⟨b, i, none⟩ (.int .i64 t)) :=
    (((((Upd.refl _ _).setCell (by rw [hp]; exact .inl (.inl rfl)) _).drew).setCell (by rw [hq]; exact .inl (.inl rfl)) _).drew).setCell (.inl (.inr rfl)) _
  refine ⟨⟨?_, h.ne, ?_, by simpa using h.len⟩, hu⟩
  · obtain ⟨v, hb, hr⟩ := h.blk
    have hb2 := ((((hb.set_ (1 + f.toNat) (.int .i64 ((cnt l f : Int) - 1))).drew).set_ (1 + t.toNat) (.int .i64 ((cnt l t : Int) + 1))).drew).far (p := ⟨b, i, none⟩) (fun e => hba e.symm) (.int .i64 t)
    have hr2 := (hr.upd (S := fun k => k = a) ((((Upd.refl (fun k => k = a) w1).setCell (p := p) (.inl (by rw [hp])) (.int .i64 ((cnt l f : Int) - 1))).drew).setCell (p := q) (.inl (by rw [hq])) (.int .i64 ((cnt l t : Int) + 1))).drew (fun k hk e => hba (by injection hk with hk; omega))).set_ rfl i (.int .i64 t)
    refine ⟨v, ?_, ?_⟩
    · have c1 := cnt_set l i t 1 hi
      have c2 := cnt_set l i t 2 hi
      have c3 := cnt_set l i t 3 hi
      have c4 := cnt_set l i t 4 hi
      have c5 := cnt_set l i t 5 hi
      rw [hf] at c1 c2 c3 c4 c5
      rw [c1, c2, c3, c4, c5, hp, hq]
      unfold mayB at hft
      simp only [Bool.or_eq_true, Bool.and_eq_true, beq_iff_eq] at hft
      rcases hft with ((⟨rfl, rfl⟩ | ⟨rfl, ((rfl | rfl) | rfl) | rfl⟩) | ⟨rfl, rfl⟩) | ⟨rfl, rfl⟩ <;> simpa using hb2
    · have e : ints (l.set i t) = (ints l).set i (.int .i64 t) := by simp [ints]
      rw [e]
      exact hr2
  · intro x hx
    rcases List.mem_or_eq_of_mem_set hx with hx | rfl
    · exact h.rng x hx
    · unfold mayB at hft
      simp only [Bool.or_eq_true, Bool.and_eq_true, beq_iff_eq] at hft
      omega

set_option maxRecDepth 100000 in
set_option maxHeartbeats 1000000 in
theorem move_yes {w : World} {a : Nat} {row : Option Nat} {l : List Int} (h : StAt w a row l) (g to : Int) (h0 : ofL l g ≠ 0) (hm : mayB (ofL l g) to = true) :
    Calls Try.prog 39 #[.pointer (some ⟨a, 0, none⟩), .int .i64 g, .int .i64 to] w fun e w' => e = .returned (.int .i64 0) ∧ StAt w' a row (l.set g.toNat to) ∧ Upd (own1 a row) w w' := by
  have hof := Lib.hid (of_c h g)
  have hmay := fun w => may_c (ofL l g) to w
  rw [hm] at hmay
  have Hmay := Lib.hid hmay
  obtain ⟨hg0, hg1, hg2⟩ := ofL_in h0
  have hl := h.len
  have hlt := h.lt
  obtain ⟨v, hb, hr⟩ := h.blk
  have hlen : (ints l).length = l.length := by simp [ints]
  rcases hr.form with ⟨_, h2, _⟩ | ⟨b, cap, hv, hrow, hcap, hmx, _, hcells, _⟩
  · rw [h2] at hlen
    simp at hlen
    omega
  rw [hlen] at hv hcap
  subst hv
  clear hlen
  subst hrow
  have hc : w.cell? ⟨b, g.toNat, none⟩ = some (.int .i64 (ofL l g)) := hcells g.toNat _ (by
    have : g.toNat < l.length := by omega
    rw [hg2]
    simp [ints, List.getD, this])
  have hab := hlt a (.inl rfl)
  have hbb := hlt b (.inr rfl)
  have c0 : w.cell? ⟨a, 0, none⟩ = some _ := hb.cell 0
  have hpos := cnt_pos l g.toNat (by omega)
  rw [← hg2] at hpos
  have hle1 := cnt_le l (ofL l g)
  have hle2 := cnt_le l to
  have hne : (ofL l g == 0) = false := by simpa using h0
  have hget : l.getD g.toNat 0 = ofL l g := hg2.symm
  generalize hfe : ofL l g = f at *
  have Hc := Lib.hid hc
  have Hb := Lib.hid hb
  have Hr := Lib.hid hr
  have Hm := Lib.hid hm
  have Hget := Lib.hid hget
  have Hlt := Lib.hid hlt
  clear hcells hg2 h0 hm hmay hfe hb hr hget hlt
  go_enter Try.func39, Try.ntmps39
  go_wp2_with (first
    | (go_at_call 43; refine hof.out.mono ?_; rintro e w1 ⟨rfl, rfl⟩)
    | (go_at_call 54; refine (Hmay.out _).mono ?_; rintro e w1 ⟨rfl, hbl⟩))
  have h1 : StAt w1 a (some b) l := h.upd (S := fun k => w.heap.size ≤ k) (Upd.of_below hbl) (fun k hk e => by have := Hlt.out k hk; omega)
  have hu1 : Upd (own1 a (some b)) w w1 := Upd.of_below hbl
  obtain ⟨v1, hb1, _⟩ := h1.blk
  have hv1 : v1 = .slice (some ⟨b, 0, none⟩) l.length cap := by
    have := hb1.cell 0
    rw [hbl.cell (p := ⟨a, 0, none⟩) hab, c0] at this
    simpa using this.symm
  subst hv1
  have c0' : w1.cell? ⟨a, 0, none⟩ = some (.slice (some ⟨b, 0, none⟩) l.length cap) := hb1.cell 0
  have hc' : w1.cell? ⟨b, g.toNat, none⟩ = some (.int .i64 f) := (hbl.cell (p := ⟨b, g.toNat, none⟩) hbb).trans Hc.out
  have fb : w1.frozen? ⟨b, g.toNat, none⟩ = false := by
    rw [hbl.frozen (p := ⟨b, g.toNat, none⟩) hbb]
    rcases Hr.out.form with ⟨h1, _⟩ | ⟨b', cap', hv', _, _, _, _, _, hfr⟩
    · cases h1
    · injection hv' with e1
      injection e1 with e1
      injection e1 with e1
      subst e1
      exact hfr _
  have d2 : w1.cell? ⟨a, 2, none⟩ = some (.int .i64 (cnt l 1)) := hb1.cell 2
  have d3 : w1.cell? ⟨a, 3, none⟩ = some (.int .i64 (cnt l 2)) := hb1.cell 3
  have d4 : w1.cell? ⟨a, 4, none⟩ = some (.int .i64 (cnt l 3)) := hb1.cell 4
  have d5 : w1.cell? ⟨a, 5, none⟩ = some (.int .i64 (cnt l 4)) := hb1.cell 5
  have d6 : w1.cell? ⟨a, 6, none⟩ = some (.int .i64 (cnt l 5)) := hb1.cell 6
  have f2 := hb1.frozen 2
  have f3 := hb1.frozen 3
  have f4 := hb1.frozen 4
  have f5 := hb1.frozen 5
  have f6 := hb1.frozen 6
  have hba : b ≠ a := fun e => h.ne (by rw [e])
  have hab' : a ≠ b := fun e => hba e.symm
  clear hb1 c0 Hc Hmay hof hbl
  have hft := Hm.out
  unfold mayB at hft
  simp only [Bool.or_eq_true, Bool.and_eq_true, beq_iff_eq] at hft
  have hgl : g.toNat < l.length := by omega
  rcases hft with ((⟨rfl, rfl⟩ | ⟨rfl, ((rfl | rfl) | rfl) | rfl⟩) | ⟨rfl, rfl⟩) | ⟨rfl, rfl⟩
  all_goals
    refine wp_still_tail 16 (by kernel_rfl) (by kernel_rfl) ?_
    simp only [List.take_succ_cons, List.take_zero, List.drop_succ_cons, List.drop_zero]
    repeat still_step
    refine wpStill_nil ?_
    go_wp2
    refine wp_still_tail 10 (by kernel_rfl) (by kernel_rfl) ?_
    simp only [List.take_succ_cons, List.take_zero, List.drop_succ_cons, List.drop_zero]
    repeat still_step
    refine wpStill_nil ?_
    go_wp2
    go_ret
    have hfin := move_fin h1 hgl Hget.out Hm.out _ _ rfl rfl
    exact ⟨rfl, hfin.1, hu1.trans hfin.2 (fun i hi => .inl hi)⟩

end Go.Proofs.Ytndldoamadmphaa
