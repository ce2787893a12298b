/- Do: what it does, by the plain step. -/
import Derived.Test.YtndldoamadmphaaMo1
import Derived.Test.YtndldoamadmphaaMd5b
namespace Go.Proofs.Ytndldoamadmphaa
open Go.RowKit
theorem cm_set (a1 a2 a3 a4 v : Int) : (cmV a1 a2 a3 a4 0 false).setIfInBounds 4 (.int .i64 v) = cmV a1 a2 a3 a4 v false := by simp [cmV]
section
variable {M M3 : Mo} {n g k f : Nat} {i : In} {ret val : Int}
set_option maxHeartbeats 1000000 in
theorem op_yes (h : Good M n) (hn : n < 800000) (hg : g < M.gs.length) {size : Nat} (hi : instOK M.gl.length M.funcs.length size i) (hk : i.op = k) (hf : opFs[k]? = some f) (hd : doI M g i = some (ret, val, M3)) : OpYes f g i M ret val M3 := by
  intro w c m Y vb a1 a2 a3 a4 hm hv hvc
  have hk18 : k < 18 := (List.getElem?_eq_some_iff.1 hf).1
  obtain ⟨_, ha, hb, hc⟩ := hi
  have hx := h.at_ hg
  have e2 : i.op.toNat = k := by omega
  have hcv : ∃ u : Int, (cmV a1 a2 a3 a4 0 false)[4]? = some (.int .i64 u) := ⟨0, rfl⟩
  have hwl : ∀ i, i < 32 → (M.wt i).length < 900000 := fun i hi => by have := h.wtl i hi; omega
  have hsl := h.sll
  have htl := h.tml
  have hmd := h.made
  have hck := h.clock
  unfold kindsOf at ha hb hc
  rw [e2] at ha hb hc
  unfold doI at hd
  rw [e2] at hd
  rcases k with _ | _ | _ | _ | _ | _ | _ | _ | _ | _ | _ | _ | _ | _ | _ | _ | _ | _ | k
  all_goals simp only at hd
  all_goals simp only [partsL, List.getD_cons_zero, List.getD_cons_succ, partOK, most] at ha hb hc
  all_goals simp only [opFs, List.getElem?_cons_zero, List.getElem?_cons_succ, Option.some.injEq] at hf
  case _ => injection hd with hd; injection hd with hd1 hd; injection hd with hd2 hd; subst hd; subst hd1; subst hd2; subst hf; exact oexit_c hm hv i
  case _ =>
    injection hd with hd; injection hd with hd1 hd; injection hd with hd2 hd; subst hd; subst hd1; subst hd2; subst hf
    rw [← cm_set]
    exact oalloc_c hm hv hvc hcv hg i (a := i.a.toNat) (b := i.b.toNat) (by omega) (by omega) (by omega) (by omega) (by omega)
  case _ =>
    split at hd
    · rename_i hs
      injection hd with hd; injection hd with hd1 hd; injection hd with hd2 hd; subst hd; subst hd1; subst hd2; subst hf
      have hst := hx.stack i.b.toNat
      rw [← cm_set]
      have hs' := hs
      rw [show i.c = (i.c.toNat : Int) by omega, show (gorAt M g).stack i.b.toNat = (((gorAt M g).stack i.b.toNat).toNat : Int) by omega] at hs'
      exact oload_yes hm hv hvc hcv hg i (a := i.a.toNat) (b := i.b.toNat) (d := i.c.toNat) (id := ((gorAt M g).stack i.b.toNat).toNat) (by omega) (by omega) (by omega) (by omega) (by omega) (by omega) (by omega) hs'
    · cases hd
  case _ =>
    split at hd
    · rename_i hs
      injection hd with hd; injection hd with hd1 hd; injection hd with hd2 hd; subst hd; subst hd1; subst hd2; subst hf
      have hst := hx.stack i.a.toNat
      have hs' := hs
      rw [show i.b = (i.b.toNat : Int) by omega, show (gorAt M g).stack i.a.toNat = (((gorAt M g).stack i.a.toNat).toNat : Int) by omega] at hs'
      exact ostore_yes hm hv hvc hg i (a := i.a.toNat) (b := i.b.toNat) (d := i.c.toNat) (id := ((gorAt M g).stack i.a.toNat).toNat) (by omega) (by omega) (by omega) (by omega) (by omega) (by omega) (by omega) hs'
    · cases hd
  case _ => injection hd with hd; injection hd with hd1 hd; injection hd with hd2 hd; subst hd; subst hd1; subst hd2; subst hf; exact omove_c hm hv hvc hg i (a := i.a.toNat) (b := i.b.toNat) (by omega) (by omega) (by omega) (by omega)
  case _ => injection hd with hd; injection hd with hd1 hd; injection hd with hd2 hd; subst hd; subst hd1; subst hd2; subst hf; exact ozero_c hm hv hvc hg i (a := i.a.toNat) (by omega) (by omega)
  case _ => injection hd with hd; injection hd with hd1 hd; injection hd with hd2 hd; subst hd; subst hd1; subst hd2; subst hf; exact oget_c hm hv hvc hg i (a := i.a.toNat) (b := i.b.toNat) (by omega) (by omega) (by omega) (by omega)
  case _ => injection hd with hd; injection hd with hd1 hd; injection hd with hd2 hd; subst hd; subst hd1; subst hd2; subst hf; exact oput_c hm hv hvc hg i (a := i.a.toNat) (b := i.b.toNat) (by omega) (by omega) (by omega) (by omega)
  case _ =>
    split at hd
    · rename_i hl
      injection hd with hd; injection hd with hd1 hd; injection hd with hd2 hd; subst hd; subst hd1; subst hd2; subst hf
      rw [← cm_set]
      exact obegin_c hm hv hvc hcv hg i (b := i.b.toNat) (by omega) (by omega) hl h.len
    · cases hd
  case _ => injection hd with hd; injection hd with hd1 hd; injection hd with hd2 hd; subst hd; subst hd1; subst hd2; subst hf; exact oyield_c hm hv i
  case _ => injection hd with hd; injection hd with hd1 hd; injection hd with hd2 hd; subst hd; subst hd1; subst hd2; subst hf; exact osleep_c hm hv hvc i hb hc (by omega) (by omega) ⟨hck.1, by omega⟩
  case _ => injection hd with hd; injection hd with hd1 hd; injection hd with hd2 hd; subst hd; subst hd1; subst hd2; subst hf; exact oblock_c hm hv hvc i hwl
  case _ =>
    split at hd
    · rename_i hw
      injection hd with hd; injection hd with hd1 hd; injection hd with hd2 hd; subst hd; subst hd1; subst hd2; subst hf
      rw [← cm_set]
      exact owake_yes hm hv hvc hcv i hwl (x := (wakeV M.wt i.a).1) (by rw [← hw])
    · rename_i hw
      injection hd with hd; injection hd with hd1 hd; injection hd with hd2 hd; subst hd; subst hd1; subst hd2; subst hf
      rw [← cm_set]
      have hw2 : wakeV M.wt i.a = (0, false) ∧ wakeL M.wt i.a = M.wt := by
        unfold wakeV at hw ⊢
        unfold wakeL
        split
        · rename_i hp
          rw [if_pos hp] at hw
          cases e : M.wt i.a.toNat with
          | nil => exact ⟨rfl, rfl⟩
          | cons x xs => rw [e] at hw; exact absurd rfl hw
        · exact ⟨rfl, rfl⟩
      have := owake_no hm hv hvc hcv i hwl hw2.1 (g := g)
      rw [hw2.2] at this
      exact this
  case _ =>
    injection hd with hd; injection hd with hd1 hd; injection hd with hd2 hd; subst hd; subst hd1; subst hd2; subst hf
    have := oeq_c hm hv hvc hcv hg i (a := i.a.toNat) (b := i.b.toNat) (by omega) (by omega) (by omega) (by omega)
    rw [cm_set] at this
    refine this.mono fun e w' hp => ?_
    split at hp <;> rename_i he
    · rw [if_pos he]; exact hp
    · rw [if_neg he]; exact hp
  case _ => injection hd with hd; injection hd with hd1 hd; injection hd with hd2 hd; subst hd; subst hd1; subst hd2; subst hf; exact ojump_c hm hv hvc hg i
  case _ => injection hd with hd; injection hd with hd1 hd; injection hd with hd2 hd; subst hd; subst hd1; subst hd2; subst hf; exact ojeq_c hm hv hvc hg i (a := i.a.toNat) (b := i.b.toNat) (by omega) (by omega) (by omega) (by omega)
  case _ => injection hd with hd; injection hd with hd1 hd; injection hd with hd2 hd; subst hd; subst hd1; subst hd2; subst hf; exact oset_c hm hv hvc hg i ha hb
  case _ =>
    injection hd with hd; injection hd with hd1 hd; injection hd with hd2 hd; subst hd; subst hd1; subst hd2; subst hf
    have hct := hx.count
    by_cases hp : 0 < (gorAt M g).count
    · rw [if_pos hp]
      exact odec_yes hm hv hvc hg i hp (by omega)
    · rw [if_neg hp]
      exact odec_no hm hv hg i hp
  case _ => omega
theorem op_no (h : Good M n) (hg : g < M.gs.length) {size : Nat} (hi : instOK M.gl.length M.funcs.length size i) (hk : i.op = k) (hf : opFs[k]? = some f) (hd : doI M g i = none) : OpNo f g i M := by
  intro w c m Y vb a1 a2 a3 a4 hm hv hvc
  have hk18 : k < 18 := (List.getElem?_eq_some_iff.1 hf).1
  obtain ⟨_, ha, hb, hc⟩ := hi
  have hx := h.at_ hg
  have e2 : i.op.toNat = k := by omega
  have hcv : ∃ u : Int, (cmV a1 a2 a3 a4 0 false)[4]? = some (.int .i64 u) := ⟨0, rfl⟩
  unfold kindsOf at ha hb hc
  rw [e2] at ha hb hc
  unfold doI at hd
  rw [e2] at hd
  rcases k with _ | _ | _ | _ | _ | _ | _ | _ | _ | _ | _ | _ | _ | _ | _ | _ | _ | _ | k
  all_goals simp only at hd
  all_goals simp only [partsL, List.getD_cons_zero, List.getD_cons_succ, partOK, most] at ha hb hc
  all_goals simp only [opFs, List.getElem?_cons_zero, List.getElem?_cons_succ, Option.some.injEq] at hf
  any_goals (cases hd; done)
  case _ =>
    split at hd
    · cases hd
    · rename_i hs
      subst hf
      have hst := hx.stack i.b.toNat
      have hs' := hs
      rw [show i.c = (i.c.toNat : Int) by omega, show (gorAt M g).stack i.b.toNat = (((gorAt M g).stack i.b.toNat).toNat : Int) by omega] at hs'
      exact (oload_no hm hv hg i (b := i.b.toNat) (d := i.c.toNat) (id := ((gorAt M g).stack i.b.toNat).toNat) (by omega) (by omega) (by omega) (by omega) (by omega) hs').mono fun e w' hp => ⟨hp.1, 0, hp.2⟩
  case _ =>
    split at hd
    · cases hd
    · rename_i hs
      subst hf
      have hst := hx.stack i.a.toNat
      have hs' := hs
      rw [show i.b = (i.b.toNat : Int) by omega, show (gorAt M g).stack i.a.toNat = (((gorAt M g).stack i.a.toNat).toNat : Int) by omega] at hs'
      exact (ostore_no hm hv hg i (a := i.a.toNat) (b := i.b.toNat) (d := i.c.toNat) (id := ((gorAt M g).stack i.a.toNat).toNat) (by omega) (by omega) (by omega) (by omega) (by omega) (by omega) (by omega) hs').mono fun e w' hp => ⟨hp.1, 0, hp.2⟩
  case _ =>
    split at hd
    · cases hd
    · rename_i hl
      subst hf
      have := obegin_full hm hv hvc hcv hg i (b := i.b.toNat) (by omega) (by omega) (by omega)
      rw [cm_set] at this
      exact this.mono fun e w' hp => ⟨hp.1, _, hp.2⟩
  case _ =>
    split at hd <;> cases hd
  case _ => omega
end

theorem doI_len {M M3 : Mo} {g : Nat} {i : In} {ret val : Int} (hd : doI M g i = some (ret, val, M3)) : M.gs.length ≤ M3.gs.length := by
  unfold doI at hd
  split at hd
  all_goals first | (cases hd; done) | skip
  all_goals (try split at hd)
  all_goals first | (cases hd; done) | skip
  all_goals (injection hd with hd; injection hd with _ hd; injection hd with _ hd; subst hd)
  all_goals first | exact Nat.le_refl _ | (simp [setG]; done) | (simp [allocM, setG]; done) | (simp [spawnM]; done) | skip
  all_goals (split <;> simp [setG])
/-- Do. -/
theorem do_c {w : World} {c : Col} {m : Nat} {Y : Lay} {M : Mo} {n : Nat} (h : ModelAt w c m Y M) (ok : Good M n) (hn : n < 700000) (g : Int) :
    Calls Try.prog 16 #[.pointer (some ⟨m, 0, none⟩), .int .i64 g] w fun e w' => e = .returned (.tuple #[(stepM M g).2.1.val, .int .i64 (stepM M g).2.2]) ∧ MPost w c m Y M w' (stepM M g).1 := by
  unfold stepM
  by_cases h0 : stateM M g = 0
  · rw [if_pos h0]
    exact (mdo_idle h g h0).mono fun e w' ⟨he, hu⟩ => ⟨he, MPost.of_frame h hu⟩
  · rw [if_neg h0]
    by_cases h1 : stateM M g = 1
    · rw [if_neg (by simpa using h1)]
      obtain ⟨k, rfl, hk⟩ := stateM_ne h0
      rw [← ok.len] at hk
      have hal : aliveM M k := ⟨h0, by rw [h1]; decide⟩
      rw [Int.toNat_natCast]
      obtain ⟨size, hs, hi⟩ := ok.instRun hk
      obtain ⟨j, hj, e1, _⟩ := hi.op
      have hf : opFs[j]? = some (opFs.getD j 0) := by
        have : j < opFs.length := hj
        simp [List.getD, this]
      have hr := ok.run hk
      have hkr : k < (runM M k).gs.length := by rw [runM_len]; exact hk
      unfold stepY
      cases hd : doI (runM M k) k (instOf M k) with
      | none => exact mdo_c h (ok.ok (by omega)) hk h1 hal (do1_of_no e1 hf (op_no hr hkr hi e1 hf hd)) (by rw [runM_len]; exact Nat.le_refl _)
      | some p =>
        obtain ⟨ret, val, M3⟩ := p
        refine mdo_c h (ok.ok (by omega)) hk h1 hal (do1_of_yes e1 hf (op_yes hr (by omega) hkr hi e1 hf hd)) ?_
        have := doI_len hd
        rw [runM_len] at this
        exact this
    · rw [if_pos (by simpa using h1)]
      exact (mdo_state h g h0 h1).mono fun e w' ⟨he, hu⟩ => ⟨he, MPost.of_frame h hu⟩
end Go.Proofs.Ytndldoamadmphaa
