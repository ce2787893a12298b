/- 'Rows.ModelNobodySaid': treadmilllaw16.ModelNobody returns true for any integer. No condition. -/
import Derived.Test.YtndldoamadmphaaMtold2
import Derived.Test.YtndldoamadmphaaUmod
import Derived.Test.YtndldoamadmphaaLaw
namespace Go.Proofs.Ytndldoamadmphaa
open Go.RowKit
section
variable {K W : Nat → Prop} {w w' : World} {m n : Nat} {M M' : Mo}
theorem donone_i (h : ModIn K W w m M n) (g : Int) (hs : stateM M g = 0) : Calls Try.prog 16 #[.pointer (some ⟨m, 0, none⟩), .int .i64 g] w fun e w' => e = .returned (.tuple #[noCommit, .int .i64 4]) ∧ Upd (fun _ => False) w w' := by
  obtain ⟨c, Y, h1, _⟩ := h
  exact mdo_idle h1 g hs
theorem nextno_i (h : ModIn K W w m M n) (g : Int) (hs : stateM M g = 0 ∨ stateM M g = 5) : Calls Try.prog 27 #[.pointer (some ⟨m, 0, none⟩), .int .i64 g] w fun e w' => e = .returned (.tuple #[In0.v, .bool false]) ∧ Upd (fun _ => False) w w' := by
  obtain ⟨c, Y, h1, _⟩ := h
  exact mnext_no h1 g hs
theorem stack_i (h : ModIn K W w m M n) (g : Int) : Calls Try.prog 28 #[.pointer (some ⟨m, 0, none⟩), .int .i64 g] w fun e w' => ∃ v, e = .returned v ∧ NewInts w w' v (stackL M g) ∧ Upd (fun _ => False) w w' := by
  obtain ⟨c, Y, h1, _⟩ := h
  exact stack_c h1 g
theorem slots_i (h : ModIn K W w m M n) (g : Int) : Calls Try.prog 23 #[.pointer (some ⟨m, 0, none⟩), .int .i64 g] w fun e w' => ∃ v, e = .returned v ∧ NewInts w w' v (slotsL M g) ∧ Upd (fun _ => False) w w' := by
  obtain ⟨c, Y, h1, h2, _⟩ := h
  exact slots_c h1 h2 g
theorem stuck_i (h : ModIn K W w m M n) (hn : n < 700000) : Calls Try.prog 24 #[.pointer (some ⟨m, 0, none⟩)] w fun e w' => e = .returned (.bool (stuckB M)) ∧ w = w' := by
  obtain ⟨c, Y, h1, h2, _⟩ := h
  exact stuck_c h1 (fun i hi => by have := h2.wtl i hi; omega)
theorem globals_i (h : ModIn K W w m M n) : Calls Try.prog 22 #[.pointer (some ⟨m, 0, none⟩)] w fun e w' => ∃ v, e = .returned v ∧ NewInts w w' v M.gl ∧ Upd (fun _ => False) w w' := by
  obtain ⟨c, Y, h1, h2, _⟩ := h
  exact globals_c h1 h2.globs
end
theorem stateM_out {M : Mo} {g : Int} (h : g < 0 ∨ (M.st.length : Int) ≤ g) : stateM M g = 0 := by
  have : ofL M.st g = 0 := if_neg (by omega)
  unfold stateM
  rw [this]
  rfl
/-- A program of one function whose text lies in new memory. -/
theorem prog_one {w : World} {i : In} {a b : Nat} (ha : a = w.heap.size) (hb : b = w.heap.size + 1) : ProgIn ((w.alloc (.cells #[.int .i64 i.op, .int .i64 i.a, .int .i64 i.b, .int .i64 i.c] 40)).alloc (.cells #[.slice (some ⟨a, 0, none⟩) 1 1] 42)) (.slice (some ⟨b, 0, none⟩) 1 1) [[i]] := by
  subst ha
  subst hb
  have b1 : Blk ((w.alloc (.cells #[.int .i64 i.op, .int .i64 i.a, .int .i64 i.b, .int .i64 i.c] 40)).alloc (.cells #[.slice (some ⟨w.heap.size, 0, none⟩) 1 1] 42)) w.heap.size 40 (insV [i]).toArray := (Blk.new _ _ _).alloc _
  have b2 : Blk ((w.alloc (.cells #[.int .i64 i.op, .int .i64 i.a, .int .i64 i.b, .int .i64 i.c] 40)).alloc (.cells #[.slice (some ⟨w.heap.size, 0, none⟩) 1 1] 42)) (w.heap.size + 1) 42 [Value.slice (some ⟨w.heap.size, 0, none⟩) 1 1].toArray := Blk.new' _ _ _ (by simp)
  exact ProgIn.of_blk (P := [[i]]) b2 rfl (by show (1 : Nat) ≤ maxLen; unfold maxLen; omega) (fun k v l hv hl => by
    rcases k with _ | k
    · injection hv with hv
      injection hl with hl
      subst hv
      subst hl
      exact CodeIn.of_blk b1 (by show (1 : Nat) ≤ maxLen; unfold maxLen; omega)
    · simp at hl)
end Go.Proofs.Ytndldoamadmphaa
namespace Go.Proofs.Ytndldoamadmphaa.modelNobody
open Go.ChangeShapes Go.WideShapes Go.ChangeAt Go.RowKit
def px : List (List In) := [[⟨0, 0, 0, 0⟩]]
theorem px_ok : progOK 0 px := by
  refine ⟨by decide, by decide, fun l hl => ?_⟩
  have : l = [⟨0, 0, 0, 0⟩] := by simpa [px] using hl
  subst this
  refine ⟨by decide, fun i hi => ?_⟩
  have : i = ⟨0, 0, 0, 0⟩ := by simpa using hi
  subst this
  exact of_decide_eq_true (by decide)
set_option maxRecDepth 100000 in
set_option maxHeartbeats 2000000 in
theorem walk (g : Int) (w : World) : Calls Try.prog 9 #[.int .i64 g] w fun e w' => e = .returned (.bool true) ∧ Below w.heap.size w w' := by
  obtain ⟨k, hk⟩ : ∃ k : Nat, k = 1 + umod g 1000 := ⟨_, rfl⟩
  have hu := umod_w64 g 1000 1000 rfl (by omega) (by omega)
  have hk1 : 1 ≤ k ∧ k ≤ 1000 := by have := umod_lt g 1000 (by omega); omega
  have hkI : (k : Int) = 1 + (umod g 1000 : Int) := by omega
  have HUM := Lib.hid hu
  have HK := Lib.hid hkI
  have hul : (umod g 1000 : Int) < 1000 := by have := umod_lt g 1000 (by omega); omega
  have hul0 : (0 : Int) ≤ (umod g 1000 : Int) := by omega
  clear hu hkI hk
  go_enter Try.func9, Try.ntmps9
  go_wp2_with fail
  refine (donil_c _ _).mono ?_
  rintro e w1 ⟨rfl, hu1⟩
  have HU1 := Lib.hid (hu1.al (.cells #[.int .i64 0, .int .i64 0, .int .i64 0, .int .i64 0, .int .i64 0, .bool false] 34))
  clear hu1
  unfold noCommit
  go_wp2_with fail
  refine (build_c (prog_one (i := ⟨0, 0, 0, 0⟩) (by first | rfl | simp) (by first | rfl | simp)) px_ok).mono ?_
  rintro e w2 ⟨m, rfl, hm, hu2⟩
  obtain ⟨K0, hm⟩ : ∃ K0, ModIn K0 (fun _ => False) w2 m (newM 0 px) 0 := ⟨_, hm⟩
  have HM := Lib.hid hm
  have hkI0 : (1 : Int) ≤ (k : Int) := by omega
  have hkI1 : (k : Int) ≤ 1000 := by omega
  have hwk : wrap64 (1 + (umod g 1000 : Int)) = k := by have := HK.out; unfold wrap64; omega
  have HWK := Lib.hid hwk
  clear hwk
  have HU2 := Lib.hid (((HU1.out.al _).al _).tr hu2)
  have hs0 : stateM (newM 0 px) k = 0 := stateM_out (.inr (by show ((1 : Nat) : Int) ≤ k; omega))
  have hs1 : stateM (newM 0 px) (-(k : Int)) = 0 := stateM_out (.inl (by omega))
  have HS0 := Lib.hid hs0
  have HS1 := Lib.hid hs1
  clear hm hu2 hs0 hs1
  go_wp2_with fail
  rw [HUM.out]
  rw [HWK.out]
  refine (donone_i HM.out k HS0.out).mono ?_
  rintro e w3 ⟨rfl, hu3⟩
  have hm3 := HM.out.up hu3 (fun _ e => e.elim)
  have HM4 := Lib.hid (hm3.up (Upd.allocF (.cells #[.int .i64 0, .int .i64 0, .int .i64 0, .int .i64 0, .int .i64 0, .bool false] 34)) (fun _ e => e.elim))
  have HU4 := Lib.hid ((HU2.out.tr hu3).al (.cells #[.int .i64 0, .int .i64 0, .int .i64 0, .int .i64 0, .int .i64 0, .bool false] 34))
  clear hu3 hm3
  unfold noCommit
  go_wp2_with fail
  refine (nextno_i HM4.out k (.inl HS0.out)).mono ?_
  rintro e w5 ⟨rfl, hu5⟩
  have HM6 := Lib.hid ((HM4.out.up hu5 (fun _ e => e.elim)).up (Upd.allocF (.cells #[.int .i64 0, .int .i64 0, .int .i64 0, .int .i64 0] 40)) (fun _ e => e.elim))
  have HU6 := Lib.hid ((HU4.out.tr hu5).al (.cells #[.int .i64 0, .int .i64 0, .int .i64 0, .int .i64 0] 40))
  clear hu5
  unfold In.v In0
  go_wp2_with fail
  refine (donone_i HM6.out _ HS1.out).mono ?_
  rintro e w7 ⟨rfl, hu7⟩
  have HM8 := Lib.hid ((HM6.out.up hu7 (fun _ e => e.elim)).up (Upd.allocF (.cells #[.int .i64 0, .int .i64 0, .int .i64 0, .int .i64 0, .int .i64 0, .bool false] 34)) (fun _ e => e.elim))
  have HU8 := Lib.hid ((HU6.out.tr hu7).al (.cells #[.int .i64 0, .int .i64 0, .int .i64 0, .int .i64 0, .int .i64 0, .bool false] 34))
  clear hu7
  unfold noCommit
  go_wp2_with fail
  refine (told_c _).mono ?_
  rintro e w9 ⟨rfl, hu9⟩
  have HM9 := Lib.hid (HM8.out.up hu9 (fun _ e => e.elim))
  have HU9 := Lib.hid (HU8.out.tr hu9)
  clear hu9
  go_wp2_with fail
  refine (gsnil_c _).mono ?_
  rintro e w10 ⟨rfl, rfl⟩
  go_wp2_with fail
  refine (idsnil_c _).mono ?_
  rintro e w10 ⟨rfl, rfl⟩
  go_wp2_with fail
  refine (reachnil_c _).mono ?_
  rintro e w10 ⟨rfl, rfl⟩
  go_wp2_with fail
  refine (stucknil_c _).mono ?_
  rintro e w10 ⟨rfl, rfl⟩
  go_wp2_with fail
  refine (state_i HM9.out k).mono ?_
  rintro e w10 ⟨rfl, rfl⟩
  rw [HS0.out]
  go_wp2_with fail
  refine (stack_i HM9.out k).mono ?_
  rintro e w10 ⟨v, rfl, ⟨row, hr, _⟩, hu10⟩
  have hst : stackL (newM 0 px) k = [] := if_neg (by show ¬ (0 ≤ (k : Int) ∧ (k : Int) < (1 : Nat)); omega)
  rw [hst] at hr
  obtain ⟨A, cap, rfl, _⟩ := Row.rdI (l := []) hr
  rw [List.length_nil]
  have HM10 := Lib.hid (HM9.out.up hu10 (fun _ e => e.elim))
  have HU10 := Lib.hid (HU9.out.tr hu10)
  clear hr hu10 hst
  go_wp2_with fail
  refine (slots_i HM10.out k).mono ?_
  rintro e w11 ⟨v, rfl, ⟨row, hr, _⟩, hu11⟩
  have hst : slotsL (newM 0 px) k = [] := if_neg (by show ¬ (1 ≤ (k : Int) ∧ (k : Int) < (1 : Nat)); omega)
  rw [hst] at hr
  obtain ⟨A2, cap2, rfl, _⟩ := Row.rdI (l := []) hr
  rw [List.length_nil]
  have HU11 := Lib.hid (HU10.out.tr hu11)
  clear hr hu11 hst
  go_wp2_with fail
  go_ret
  exact ⟨rfl, HU11.out.below'⟩

set_option maxRecDepth 100000 in
theorem lifted (os : Os) (started : os.Started) (H : Type) (enc : TypeId × Value → H) :
    ReturnsInHanded {} Try.checked os 9 .any (Rows.modelNobodySpec.pre6 enc Try.prog Try.f9 Rows.modelNobodyRow.domain false) (Rows.modelNobodySpec.post enc Try.prog Try.f9 false true false false) := by
  refine returnsInHanded_of_change (C := Try.checked) Try.ownK started (by kernel_rfl) Try.func9
    (ChangeSpec.witness6 (enc := enc) (C := Try.checked) false ⟨#[], #[.int .i64 0], []⟩ 8 (by kernel_rfl) (by kernel_rfl) (by kernel_rfl) (by kernel_rfl)) ?_
  intro W base args ds gs before hval0 hW hcnd _
  have hval : ∀ (j : Nat) t v, Try.f9.params[j]? = some t → args[j]? = some v → Value.okWide Try.prog W .any base t v := hval0
  have hW' := hW
  obtain ⟨p, q, hA0, hV, rfl, hfz, hnd⟩ := hW
  have hA : DataW.TrodAll enc Try.prog W 0 (fun _ => true) true Try.f9.params.toList args.toList ds p := hA0
  rw [Try.params9] at hA hval
  obtain ⟨v0, vs0, d0, ds0, p0, q0, hargs, rfl, rfl, h0, r0⟩ := trodAll_cons hA
  obtain ⟨rfl, rfl, rfl⟩ := trodAll_nil r0
  obtain rfl : args = #[v0] := by cases args; simp_all
  obtain ⟨rfl, rfl⟩ := trodVars_none hV
  obtain ⟨a0, rfl, rfl, rfl, _⟩ := open_int Try.underlying3 (hval 0 3 v0 rfl rfl) h0
  clear hA0 hval0
  refine (walk a0 W).mono fun e W' ⟨he, hb⟩ => ?_
  subst he
  exact ⟨_, rfl, law_post Try.laidB rfl rfl rfl Try.underlying4 (by kernel_rfl) hW' hb⟩

theorem proved : Rows.ModelNobodySaid :=
  OpenClaim.holds_of_wide 9 Try.f9 rfl rfl rfl rfl rfl rfl rfl ⟨rfl, rfl, rfl, rfl, rfl⟩ rfl rfl rfl rfl rfl (by kernel_rfl) Try.func9 (by kernel_rfl)
    (of_decide_eq_true (by kernel_rfl)) (by unfold Func.isWrapper; first | (rw [if_pos (by decide +kernel)]; kernel_rfl) | (rw [if_neg (by decide +kernel)]; exact ⟨rfl, rfl⟩))
    (fun os started H enc _ => lifted os started H enc)
#print axioms proved
end Go.Proofs.Ytndldoamadmphaa.modelNobody
