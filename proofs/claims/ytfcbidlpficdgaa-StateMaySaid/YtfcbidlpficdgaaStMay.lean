/- 'Rows.StateMaySaid': treadmilllaw12.StateMay returns true for any two integers. No condition. -/
import Derived.Test.YtfcbidlpficdgaaStTold
import Derived.Test.YtfcbidlpficdgaaLaw
namespace Go.Proofs.Ytfcbidlpficdgaa.stateMay
open Go.ChangeShapes Go.WideShapes Go.ChangeAt Go.RowKit

theorem mayB5 (t : Int) : mayB 5 t = false := by unfold mayB; simp
theorem mayB_same (f : Int) : mayB f f = false := by
  unfold mayB
  by_cases h1 : f = 1
  · subst h1; rfl
  by_cases h2 : f = 2
  · subst h2; rfl
  by_cases h3 : f = 3
  · subst h3; rfl
  by_cases h4 : f = 4
  · subst h4; rfl
  simp [h1, h2, h3, h4]
theorem mayB3 (f : Int) (h : f ≠ 2) : mayB f 3 = false := by
  unfold mayB
  simp [h]

set_option maxRecDepth 100000 in
set_option maxHeartbeats 1000000 in
theorem walk (a0 : Int) (a1 : Int) (w : World) :
    Calls Try.prog 4 #[.int .i64 a0, .int .i64 a1] w fun e w' => e = .returned (.bool true) ∧ Below w.heap.size w w' := by
  go_enter Try.func4, Try.ntmps4
  go_wp2_with fail
  refine (stold_c _).mono ?_
  rintro e w1 ⟨rfl, u1⟩
  go_wp2_with fail
  refine (may_c _ _ _).mono ?_
  rintro e w2 ⟨rfl, u2⟩
  go_wp2_with fail
  refine (rmay_c _ _ _).mono ?_
  rintro e w3 ⟨rfl, rfl⟩
  go_wp2_with fail
  refine (may_c _ _ _).mono ?_
  rintro e w3 ⟨rfl, u3⟩
  go_wp2_with fail
  refine (rmay_c _ _ _).mono ?_
  rintro e w4 ⟨rfl, rfl⟩
  go_wp2_with fail
  refine (may_c _ _ _).mono ?_
  rintro e w4 ⟨rfl, u4⟩
  rw [mayB5]
  go_wp2_with fail
  refine (may_c _ _ _).mono ?_
  rintro e w5 ⟨rfl, u5⟩
  have u15 : Upd (fun _ => False) w w5 := ((((u1.tail (S := fun _ => False) (Upd.of_below u2) (fun _ h => h.elim)).tail (S := fun _ => False) (Upd.of_below u3) (fun _ h => h.elim)).tail (S := fun _ => False) (Upd.of_below u4) (fun _ h => h.elim)).tail (S := fun _ => False) (Upd.of_below u5) (fun _ h => h.elim))
  clear u1 u2 u3 u4 u5
  generalize a0.tmod 7 = f at *
  by_cases h2 : f = 2
  · subst h2
    have e3 : mayB 2 3 = true := by decide
    rw [e3]
    clear e3
    go_wp2_with fail
    refine (may_c _ _ _).mono ?_
    rintro e w6 ⟨rfl, u6⟩
    rw [mayB_same]
    go_wp2_with fail
    go_ret
    exact ⟨rfl, (u15.tail (S := fun _ => False) (Upd.of_below u6) (fun _ h => h.elim)).below'⟩
  · rw [mayB3 f h2]
    clear h2
    go_wp2_with fail
    refine (may_c _ _ _).mono ?_
    rintro e w6 ⟨rfl, u6⟩
    rw [mayB_same]
    go_wp2_with fail
    go_ret
    exact ⟨rfl, (u15.tail (S := fun _ => False) (Upd.of_below u6) (fun _ h => h.elim)).below'⟩

set_option maxRecDepth 100000 in
theorem lifted (os : Os) (started : os.Started) (H : Type) (enc : TypeId × Value → H) :
    ReturnsInHanded {} Try.checked os 4 .any (Rows.stateMaySpec.pre6 enc Try.prog Try.f4 Rows.stateMayRow.domain false) (Rows.stateMaySpec.post enc Try.prog Try.f4 false true false false) := by
  refine returnsInHanded_of_change (C := Try.checked) Try.ownK started (by kernel_rfl) Try.func4
    (ChangeSpec.witness6 (enc := enc) (C := Try.checked) false ⟨#[], #[.int .i64 0, .int .i64 0], []⟩ 8 (by kernel_rfl) (by kernel_rfl) (by kernel_rfl) (by kernel_rfl)) ?_
  intro W base args ds gs before hval0 hW hcnd _
  have hval : ∀ (j : Nat) t v, Try.f4.params[j]? = some t → args[j]? = some v → Value.okWide Try.prog W .any base t v := hval0
  have hW' := hW
  obtain ⟨p, q, hA0, hV, rfl, hfz, hnd⟩ := hW
  have hA : DataW.TrodAll enc Try.prog W 0 (fun _ => true) true Try.f4.params.toList args.toList ds p := hA0
  rw [Try.params4] at hA hval
  obtain ⟨v0, vs0, d0, ds0, p0, q0, hargs, rfl, rfl, h0, r0⟩ := trodAll_cons hA
  obtain ⟨v1, vs1, d1, ds1, p1, q1, rfl, rfl, rfl, h1, r1⟩ := trodAll_cons r0
  obtain ⟨rfl, rfl, rfl⟩ := trodAll_nil r1
  obtain rfl : args = #[v0, v1] := by cases args; simp_all
  obtain ⟨rfl, rfl⟩ := trodVars_none hV
  obtain ⟨a0, rfl, rfl, rfl, _⟩ := open_int Try.underlying3 (hval 0 3 v0 rfl rfl) h0
  obtain ⟨a1, rfl, rfl, rfl, _⟩ := open_int Try.underlying3 (hval 1 3 v1 rfl rfl) h1
  clear hA0 hval0
  refine (walk a0 a1 W).mono fun e W' ⟨he, hb⟩ => ?_
  subst he
  exact ⟨_, rfl, law_post Try.laidB rfl rfl rfl Try.underlying4 (by kernel_rfl) hW' hb⟩

theorem proved : Rows.StateMaySaid :=
  OpenClaim.holds_of_wide 4 Try.f4 rfl rfl rfl rfl rfl rfl rfl ⟨rfl, rfl, rfl, rfl, rfl⟩ rfl rfl rfl rfl rfl (by kernel_rfl) Try.func4 (by kernel_rfl)
    (of_decide_eq_true (by kernel_rfl)) (by unfold Func.isWrapper; first | (rw [if_pos (by decide +kernel)]; kernel_rfl) | (rw [if_neg (by decide +kernel)]; exact ⟨rfl, rfl⟩))
    (fun os started H enc _ => lifted os started H enc)
#print axioms proved
end Go.Proofs.Ytfcbidlpficdgaa.stateMay
