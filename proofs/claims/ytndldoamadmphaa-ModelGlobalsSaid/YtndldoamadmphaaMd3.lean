/- Contracts of package model: Next, slot. -/
import Derived.Test.YtndldoamadmphaaMd2
import Derived.WalkLawsBesides
namespace Go.Proofs.Ytndldoamadmphaa
open Go.RowKit

/-- Where the text of goroutine g's function stands. -/
theorem ModelAt.code {w : World} {c : Col} {m : Nat} {Y : Lay} {M : Mo} (h : ModelAt w c m Y M) {f : Nat} (hf : f < M.funcs.length) :
    ∃ b off cap u, Y.pv = .slice (some ⟨b, off, none⟩) M.funcs.length cap ∧ b < w.heap.size ∧ (c b).1 = 8 ∧ w.cell? ⟨b, off + f, none⟩ = some u ∧ CodeAt w c u (M.funcs.getD f []) := by
  obtain ⟨A, cap, hv, _, hb⟩ := h.prog
  obtain ⟨b, off, rfl, hlt, h8, hx⟩ := hb (by omega)
  obtain ⟨u, h1, h2⟩ := hx f (M.funcs.getD f []) (by simp [List.getD, hf])
  exact ⟨b, off, cap, u, hv, hlt, h8, h1, h2⟩

set_option maxRecDepth 100000 in
set_option maxHeartbeats 2000000 in
theorem mnext_c {w : World} {c : Col} {m : Nat} {Y : Lay} {M : Mo} {n : Nat} (h : ModelAt w c m Y M) (ok : MoOK M n) {g : Nat} (ha : aliveM M g) :
    Calls Try.prog 27 #[.pointer (some ⟨m, 0, none⟩), .int .i64 g] w fun e w' => e = .returned (.tuple #[(instOf M g).v, .bool true]) ∧ Upd (fun _ => False) w w' := by
  obtain ⟨k, hk, hg⟩ := stateM_ne ha.1
  have hgk : g = k := by omega
  subst hgk
  rw [← ok.len] at hg
  obtain ⟨x, hx⟩ : ∃ x, x = gorAt M g := ⟨_, rfl⟩
  have hxb := (h.gs.g g _ (gorAt_get hg)).1
  obtain ⟨hf0, hf1⟩ := ok.f g hg
  obtain ⟨hp0, hp1⟩ := ok.pc g hg
  have hbnd := ok.bound
  rw [← hx] at hxb hf0 hf1 hp0 hp1
  obtain ⟨fn, hfn⟩ : ∃ fn : Nat, x.f = fn := ⟨x.f.toNat, by omega⟩
  obtain ⟨pn, hpn⟩ : ∃ pn : Nat, x.pc = pn := ⟨x.pc.toNat, by omega⟩
  have hfl : fn < M.funcs.length := by omega
  obtain ⟨b, off, cap, u, hpv, hblt, _, hcu, hcode⟩ := h.code hfl
  obtain ⟨A2, cap2, hu, hlm, hcells⟩ := hcode
  obtain ⟨l, hl⟩ : ∃ l, l = M.funcs.getD fn [] := ⟨_, rfl⟩
  rw [← hl] at hu hlm hcells
  unfold maxLen at hlm
  have hcodeOf : codeOf M g = l := by
    unfold codeOf
    rw [← hx, hfn, hl]
    rfl
  have hinst : instOf M g = l.getD pn In0 := by
    unfold instOf
    rw [hcodeOf, ← hx, hpn]
    rfl
  rw [hinst]
  obtain ⟨sx, hsx⟩ : ∃ s, s = stateM M g := ⟨_, rfl⟩
  have Hs := Lib.hid (mstate_c (h.frame (S := fun _ => False) ((Upd.refl _ _).alloc (.cells #[.int .i64 0, .int .i64 0, .int .i64 0, .int .i64 0] 40)) (fun _ e => e.elim)) g)
  rw [← hsx] at Hs
  have hs0 : (sx == 0) = false := by rw [hsx]; simpa using ha.1
  have hs5 : (sx == 5) = false := by rw [hsx]; simpa using ha.2
  obtain ⟨gr, capg, hgv, _, hgrl, hgc⟩ := h.gs.at_ hg
  have c1 := h.c1
  have c3 := h.c3
  have hml := h.blk.lt
  have hxl := hxb.lt
  have x0 : w.cell? ⟨Y.gp g, 0, none⟩ = some (.int .i64 x.f) := hxb.cell 0
  have x1 : w.cell? ⟨Y.gp g, 1, none⟩ = some (.int .i64 x.pc) := hxb.cell 1
  rw [hpv] at c1
  rw [hgv] at c3
  rw [hu] at hcu
  rw [hfn] at x0
  rw [hpn] at x1
  have hgI : (g : Int) < (M.gs.length : Int) := by omega
  have hfI : (fn : Int) < (M.funcs.length : Int) := by omega
  have hpI : (pn : Int) < 900000 := by omega
  obtain ⟨gq, hgq⟩ : ∃ q, q = Y.gp g := ⟨_, rfl⟩
  rw [← hgq] at hgc x0 x1 hxl
  by_cases hpl : pn < l.length
  · obtain ⟨b2, off2, rfl, hb2l, _, hcell⟩ := hcells (by omega)
    obtain ⟨i, hi⟩ : ∃ i, i = l.getD pn In0 := ⟨_, rfl⟩
    have hget : l[pn]? = some i := by rw [hi]; simp [List.getD, hpl]
    obtain ⟨i0, i1, i2, i3⟩ := hcell pn i hget
    rw [← hi]
    have hplI : (pn : Int) < (l.length : Int) := by omega
    clear h ok ha hk hx hxb hf0 hf1 hp0 hp1 hfn hpn hpv hu hcells hl hcodeOf hinst hsx hgv hgq hi hget hcell hlm
    go_enter Try.func27, Try.ntmps27
    go_wp2_with (refine Hs.out.mono ?_; rintro e w1 ⟨rfl, rfl⟩)
    go_quiet (fail)
    go_wp2_with fail
    refine bodyPost_ret (v := .tuple #[i.v, .bool true]) (by simp [results, Try.results27, go_sem, In.v]) rfl ⟨rfl, ?_⟩
    exact (((((((Upd.refl _ _).alloc _).drewN _).setCell (.inr (Nat.le_refl _)) _).setCell (.inr (Nat.le_refl _)) _).setCell (.inr (Nat.le_refl _)) _).setCell (.inr (Nat.le_refl _)) _)
  · have hdef : l.getD pn In0 = In0 := by simp [List.getD, List.getElem?_eq_none (by omega : l.length ≤ pn)]
    rw [hdef]
    have hplI : ¬ (pn : Int) < (l.length : Int) := by omega
    have hplD : decide (pn < l.length) = false := by simpa using hpl
    clear h ok ha hk hx hxb hf0 hf1 hp0 hp1 hfn hpn hpv hu hcells hl hcodeOf hinst hsx hgv hgq hdef hlm hpl
    go_enter Try.func27, Try.ntmps27
    go_wp2_with (refine Hs.out.mono ?_; rintro e w1 ⟨rfl, rfl⟩)
    go_quiet (fail)
    go_wp2_with fail
    refine bodyPost_ret (v := .tuple #[In0.v, .bool true]) (by simp [results, Try.results27, go_sem, In.v, In0]) rfl ⟨rfl, ?_⟩
    exact (((((((Upd.refl _ _).alloc _).drewN _).setCell (.inr (Nat.le_refl _)) _).setCell (.inr (Nat.le_refl _)) _).setCell (.inr (Nat.le_refl _)) _).setCell (.inr (Nat.le_refl _)) _)

/-- A slot of the object id, if there is such a slot. -/
def slotOK (M : Mo) (id : Int) (i : Int) : Prop := id ≠ 0 ∧ i < (M.sl.getD id.toNat []).length
theorem SlC.at_ {w : World} {c : Col} {v : Value} {sl : List (List Int)} (h : SlC w c v sl) {i : Nat} (hi : i < sl.length) :
    ∃ g cap u r, v = .slice (some ⟨g, 0, none⟩) sl.length cap ∧ c g = (4, 0) ∧ g < w.heap.size ∧ w.cell? ⟨g, i, none⟩ = some u ∧ Row w 3 r u (ints (sl.getD i [])) ∧ (∀ k, r = some k → c k = (4, i + 1)) ∧ ∃ row vs, Row w 44 row v vs ∧ vs[i]? = some u := by
  obtain ⟨row, vs, h1, h2, h3, h4⟩ := h
  obtain ⟨u, r, h5, h6, h7⟩ := h4 i (sl.getD i []) (by simp [List.getD, hi])
  obtain ⟨g, cap, hv, hr, hg, hc, _⟩ := h1.at_ h5
  exact ⟨g, cap, u, r, by rw [h3] at hv; exact hv, h2 g hr, hg, hc, h6, h7, row, vs, h1, h5⟩
theorem Row.lenI {w : World} {e : TypeId} {row : Option Nat} {v : Value} {l : List Int} (h : Row w e row v (ints l)) : ∃ A cap, v = .slice A l.length cap := by
  rcases h.form with ⟨hv, h0, _⟩ | ⟨g, cap, hv, _⟩
  · have : l.length = 0 := by
      have := congrArg List.length h0
      simpa [ints] using this
    exact ⟨none, 0, by rw [this]; exact hv⟩
  · exact ⟨_, cap, by simpa [ints] using hv⟩

theorem ints_get {l : List Int} {i : Nat} (h : i < l.length) : (ints l)[i]? = some (.int .i64 (l.getD i 0)) := by simp [ints, List.getD, h]
def faultV : Value := .iface 79 (.agg #[])
set_option maxRecDepth 100000 in
set_option maxHeartbeats 2000000 in
/-- model.slot where there is no such slot. -/
theorem slot_no {w : World} {c : Col} {m : Nat} {Y : Lay} {M : Mo} (h : ModelAt w c m Y M) {g : Nat} (hg : g < M.gs.length) {a : Nat} (ha : a < 16) {i : Nat} {id : Nat} (hid : (gorAt M g).stack a = id) (hidl : id < M.sl.length) (hno : ¬ slotOK M id i) :
    Calls Try.prog 78 #[.pointer (some ⟨m, 0, none⟩), .pointer (some ⟨Y.gp g, 0, none⟩), .int .i64 a, .int .i64 i] w fun e w' => e = .panicked [{ v := faultV, recovered := false }] ∧ w = w' := by
  have hxb := (h.gs.g g _ (gorAt_get hg)).1
  have hst := hxb.cell (3 + a)
  rw [gorV_stack _ ha, hid] at hst
  have haI : (a : Int) < 16 := by omega
  by_cases h0 : id = 0
  · subst h0
    clear h hxb hid hno hidl
    go_enter Try.func78, Try.ntmps78
    go_wp2_with fail
    exact ⟨rfl, rfl, rfl⟩
  · have hlen : (M.sl.getD id []).length ≤ i := by
      unfold slotOK at hno
      have e : ((id : Int)).toNat = id := by omega
      rw [e] at hno
      omega
    obtain ⟨gr, cap, u, r, hv, _, hgl, hc, hrow, _, _⟩ := h.sl.at_ hidl
    obtain ⟨A, cap2, hu⟩ := hrow.lenI
    have c5 := h.c5
    rw [hv] at c5
    rw [hu] at hc
    have h0b : ((id : Int) == 0) = false := by simp; omega
    have hlI : (((M.sl.getD id []).length : Nat) : Int) ≤ (i : Int) := by omega
    have hlD : decide ((M.sl.getD id []).length ≤ i) = true := by simpa using hlen
    have hidI : (id : Int) < (M.sl.length : Int) := by omega
    generalize (M.sl.getD id []).length = n at *
    clear h hxb hid hno hrow hv hu h0 hlen
    go_enter Try.func78, Try.ntmps78
    go_wp2_with fail
    exact ⟨rfl, rfl, rfl⟩
set_option maxRecDepth 100000 in
set_option maxHeartbeats 2000000 in
/-- model.slot where there is one: its address. -/
theorem slot_yes {w : World} {c : Col} {m : Nat} {Y : Lay} {M : Mo} (h : ModelAt w c m Y M) {g : Nat} (hg : g < M.gs.length) {a : Nat} (ha : a < 16) {i : Nat} {id : Nat} (hid : (gorAt M g).stack a = id) (hidl : id < M.sl.length) (hyes : slotOK M id i) :
    ∃ r, c r = (4, id + 1) ∧ r < w.heap.size ∧ w.cell? ⟨r, i, none⟩ = some (.int .i64 ((M.sl.getD id []).getD i 0)) ∧ w.frozen? ⟨r, i, none⟩ = false ∧ (∃ u row vs, Row w 44 row Y.slv vs ∧ vs[id]? = some u ∧ Row w 3 (some r) u (ints (M.sl.getD id []))) ∧
    Calls Try.prog 78 #[.pointer (some ⟨m, 0, none⟩), .pointer (some ⟨Y.gp g, 0, none⟩), .int .i64 a, .int .i64 i] w fun e w' => e = .returned (.pointer (some ⟨r, i, none⟩)) ∧ w = w' := by
  have hxb := (h.gs.g g _ (gorAt_get hg)).1
  have hst := hxb.cell (3 + a)
  rw [gorV_stack _ ha, hid] at hst
  have haI : (a : Int) < 16 := by omega
  have h0 : id ≠ 0 := fun e => hyes.1 (by rw [e]; rfl)
  have hlen : i < (M.sl.getD id []).length := by
    have := hyes.2
    have e : ((id : Int)).toNat = id := by omega
    rw [e] at this
    omega
  obtain ⟨gr, cap, u, r, hv, _, hgl, hc, hrow, hcol, row0, vs0, hrow0, hvs0⟩ := h.sl.at_ hidl
  obtain ⟨g2, cap2, hu, hr2, hg2l, hcell, hfr⟩ := hrow.at_ (i := i) (u := .int .i64 ((M.sl.getD id []).getD i 0)) (ints_get hlen)
  rw [show (ints (M.sl.getD id [])).length = (M.sl.getD id []).length by simp [ints]] at hu
  refine ⟨g2, hcol g2 hr2, hg2l, hcell, hfr, ⟨u, row0, vs0, hrow0, hvs0, hr2 ▸ hrow⟩, ?_⟩
  have c5 := h.c5
  rw [hv] at c5
  rw [hu] at hc
  have h0b : ((id : Int) == 0) = false := by simp; omega
  have hlI : (i : Int) < (((M.sl.getD id []).length : Nat) : Int) := by omega
  have hlD : decide ((M.sl.getD id []).length ≤ i) = false := by simpa using hlen
  have hidI : (id : Int) < (M.sl.length : Int) := by omega
  generalize (M.sl.getD id []).length = n at *
  clear h hxb hid hyes hrow hv hu h0 hcell hfr hcol hrow0 hvs0
  go_enter Try.func78, Try.ntmps78
  go_wp2_with fail
  go_ret
  exact ⟨rfl, rfl⟩
end Go.Proofs.Ytndldoamadmphaa
