/- 'Rows.StateManySaid': treadmilllaw12.StateMany returns true for any two integers. No condition. -/
import Derived.Test.YtfcbidlpficdgaaStTold
import Derived.Test.YtfcbidlpficdgaaLaw
import Derived.Test.YtfcbidlpficdgaaRegion
namespace Go.Proofs.Ytfcbidlpficdgaa.stateMany
open Go.ChangeShapes Go.WideShapes Go.ChangeAt Go.RowKit

theorem u64_tmod (a m : Int) (hm : 0 < m) : 0 ≤ (IntKind.u64.wrap a).tmod m ∧ (IntKind.u64.wrap a).tmod m < m := by
  have h : 0 ≤ IntKind.u64.wrap a := by rw [IntKind.wrap_u64]; omega
  rw [Int.tmod_eq_emod_of_nonneg h]
  exact ⟨Int.emod_nonneg _ (by omega), Int.emod_lt_of_pos _ hm⟩
theorem u64_small (a m c : Int) (hm : 0 < m) (hm2 : m ≤ 1000) (hc : 0 ≤ c) (hc2 : c ≤ 100000) : ∃ k : Nat, wrap64 (c + wrap64 ((IntKind.u64.wrap a).tmod m)) = (k : Int) ∧ c ≤ k ∧ (k : Int) < c + m := by
  obtain ⟨h1, h2⟩ := u64_tmod a m hm
  refine ⟨(c + (IntKind.u64.wrap a).tmod m).toNat, ?_, by omega, by omega⟩
  generalize (IntKind.u64.wrap a).tmod m = x at *
  unfold wrap64
  omega

def manyL (e n : Nat) : List Int := (List.range n).map (fun j => if j % e = 0 then (5 : Int) else 1)
theorem manyL_len (e n : Nat) : (manyL e n).length = n := by simp [manyL]
theorem manyL_succ (e n : Nat) : manyL e (n + 1) = manyL e n ++ [if n % e = 0 then (5 : Int) else 1] := by
  unfold manyL
  rw [List.range_succ, List.map_append]
  rfl
theorem manyL_cnt (e : Nat) (he : 0 < e) (n : Nat) : cnt (manyL e n) 5 = (n + e - 1) / e := by
  induction n with
  | zero =>
    have : (0 + e - 1) / e = 0 := Nat.div_eq_of_lt (by omega)
    rw [this]; rfl
  | succ n ih =>
    rw [manyL_succ, cnt_snoc, ih]
    have h1 : n + 1 + e - 1 = n + e := by omega
    rw [h1, Nat.add_div_right n he]
    by_cases h : n % e = 0
    · rw [if_pos h, if_pos rfl]
      obtain ⟨q, rfl⟩ := Nat.dvd_of_mod_eq_zero h
      have : (e * q + e - 1) / e = q := by
        rw [Nat.div_eq_iff he]
        exact ⟨by rw [Nat.mul_comm]; omega, by rw [Nat.mul_comm]; omega⟩
      rw [this, Nat.mul_div_cancel_left q he]
    · rw [if_neg h, if_neg (by omega)]
      have hd := Nat.div_add_mod n e
      have hlt := Nat.mod_lt n he
      have : (n + e - 1) / e = n / e + 1 := by
        rw [Nat.div_eq_iff he]
        have hx : (n / e + 1) * e = e * (n / e) + e := by rw [Nat.add_mul, Nat.one_mul, Nat.mul_comm]
        have hy : (n / e + 1 + 1) * e = e * (n / e) + e + e := by rw [Nat.add_mul, hx, Nat.one_mul]
        constructor <;> omega
      omega
theorem moves1 (l : List Int) : mvRes (l ++ [1]) l.length 2 = 0 ∧ mvL (l ++ [1]) l.length 2 = l ++ [2] := by
  have h : ofL (l ++ [1]) l.length = 1 := by
    unfold ofL
    rw [if_pos (by simp; omega)]
    simp [List.getD]
  unfold mvRes mvL
  rw [h]
  simp [mayB]
theorem moves2 (l : List Int) : mvRes (l ++ [2]) l.length 5 = 0 ∧ mvL (l ++ [2]) l.length 5 = l ++ [5] := by
  have h : ofL (l ++ [2]) l.length = 2 := by
    unfold ofL
    rw [if_pos (by simp; omega)]
    simp [List.getD]
  unfold mvRes mvL
  rw [h]
  simp [mayB]

def At (w : World) (a : Nat) (l : List Int) (wr : World) : Prop := ∃ row, StAt wr a row l ∧ Upd (fun _ => False) w wr ∧ ∀ k, own1 a row k → w.heap.size ≤ k

set_option maxRecDepth 100000 in
set_option maxHeartbeats 8000000 in
theorem walk (a0 : Int) (a1 : Int) (w : World) :
    Calls Try.prog 5 #[.int .i64 a0, .int .i64 a1] w fun e w' => e = .returned (.bool true) ∧ Below w.heap.size w w' := by
  obtain ⟨k, hk, hk1, hk2⟩ := u64_small a0 11 1020 (by omega) (by omega) (by omega) (by omega)
  obtain ⟨e, he, he1, he2⟩ := u64_small a1 9 1 (by omega) (by omega) (by omega) (by omega)
  have HK := Lib.hid hk
  have HE := Lib.hid he
  clear hk he
  go_enter Try.func5, Try.ntmps5
  go_wp2_with fail
  refine (snew_c _).mono ?_
  rintro e' w1 ⟨rfl, h1, u1⟩
  have ha : ∃ a, a = w.heap.size := ⟨_, rfl⟩
  obtain ⟨a, ha⟩ := ha
  rw [← ha] at h1 ⊢
  have Ha := Lib.hid ha
  clear ha
  have hat : At w a [] w1 := ⟨none, h1, u1, by
    rintro k (rfl | hk)
    · exact Nat.le_of_eq Ha.out.symm
    · cases hk⟩
  clear h1 u1
  go_wp2_with fail
  rw [HK.out, HE.out]
  go_loopw [8] (fun i wr => ∃ n : Nat, n ≤ k ∧ i = .int .i64 n ∧ At w a (manyL e (min n 1024)) wr) (fun i _ => k - (intOf i).toNat)
  case atStart => exact ⟨0, by omega, rfl, hat⟩
  case round =>
    obtain ⟨n, hn, rfl, row, hst, hu, hfr⟩ := hrel
    have hfr' := Lib.hid hfr
    clear hfr
    by_cases hlt : n < k
    · by_cases h1024 : n < 1024
      · have hmin : min n 1024 = n := by omega
        rw [hmin] at hst
        have hI : (n : Int) < 1024 := by omega
        have hI2 : decide ((n : Int) < 1024) = true := by simpa using hI
        have hlen := manyL_len e n
        have hsp := spawn_c hst (by omega)
        rw [hlen] at hsp
        have Hlen := Lib.hid hlen
        have Hsp := Lib.hid hsp
        clear hsp hmin hlen h1024
        go_wp2_with fail
        refine Hsp.out.mono ?_
        rintro e' w2 ⟨rfl, row2, h2, u2, hr2⟩
        have hfr2 : ∀ k, own1 a row2 k → w.heap.size ≤ k := by
          have hs := hu.size
          rintro k (rfl | hk)
          · exact hfr'.out k (.inl rfl)
          · rcases hr2 k hk with h | h
            · exact hfr'.out k (.inr h)
            · omega
        have u02 := hu.tail u2 hfr'.out
        have Hfr2 := Lib.hid hfr2
        clear hfr2 hr2
        by_cases hm : n % e = 0
        · have hm' : (((n : Int) % (e : Int)) == 0) = true := by
            rw [beq_iff_eq]; exact_mod_cast hm
          have hs1 := manyL_succ e n
          rw [if_pos hm] at hs1
          have Hs1 := Lib.hid hs1
          have m1 := moves1 (manyL e n)
          have m2 := moves2 (manyL e n)
          rw [Hlen.out] at m1 m2
          have c1 := move_c h2 n 2
          rw [m1.1, m1.2] at c1
          have C1 := Lib.hid c1
          have M2 := Lib.hid m2
          clear hm hs1 m1 m2 c1
          go_wp2_with fail
          refine C1.out.mono ?_
          rintro e' w3 ⟨rfl, h3, u3⟩
          have c2 := move_c h3 n 5
          rw [M2.out.1, M2.out.2] at c2
          have C2 := Lib.hid c2
          clear c2
          go_wp2_with fail
          refine C2.out.mono ?_
          rintro e' w4 ⟨rfl, h4, u4⟩
          go_wp2_with fail
          go_roundw
          case rel =>
            refine ⟨n + 1, by omega, by go_num, row2, ?_, (u02.tail u3 Hfr2.out).tail u4 Hfr2.out, Hfr2.out⟩
            rw [show min (n + 1) 1024 = n + 1 by omega, Hs1.out]
            exact h4
          case measure => simp [intOf]; omega
        · have hm' : (((n : Int) % (e : Int)) == 0) = false := by
            rw [beq_eq_false_iff_ne]; intro h; exact hm (by exact_mod_cast h)
          have hs1 := manyL_succ e n
          rw [if_neg hm] at hs1
          have Hs1 := Lib.hid hs1
          clear hm hs1
          go_wp2_with fail
          go_roundw
          case rel =>
            refine ⟨n + 1, by omega, by go_num, row2, ?_, u02, Hfr2.out⟩
            rw [show min (n + 1) 1024 = n + 1 by omega, Hs1.out]
            exact h2
          case measure => simp [intOf]; omega
      · have hmin : min n 1024 = 1024 := by omega
        rw [hmin] at hst
        have hsp := Lib.hid (spawn_full hst (by rw [manyL_len]; omega))
        have hI : 1024 ≤ (n : Int) := by omega
        have hI2 : decide ((n : Int) < 1024) = false := by simpa using hI
        clear hmin h1024
        go_wp2_with fail
        refine hsp.out.mono ?_
        rintro e' w2 ⟨rfl, rfl⟩
        go_wp2_with fail
        go_roundw
        case rel =>
          refine ⟨n + 1, by omega, by go_num, row, ?_, hu, hfr'.out⟩
          rw [show min (n + 1) 1024 = 1024 by omega]
          exact hst
        case measure => simp [intOf]; omega
    · have hnk : n = k := by omega
      obtain ⟨m, hm⟩ : ∃ m, m = min k 1024 := ⟨_, rfl⟩
      have hmin : min n 1024 = m := by omega
      rw [hmin] at hst
      have hif : (if 1024 < (k : Int) then (1024 : Int) else (k : Int)) = (m : Int) := by split <;> omega
      have hm1 : m ≤ 1024 := by omega
      clear hmin hnk hm
      obtain ⟨c, hc⟩ : ∃ c, c = (m + e - 1) / e := ⟨_, rfl⟩
      have s1 : IntKind.i64.wrap ((m : Int) + e) = (m : Int) + e := IntWalk.i64_in _ (by omega)
      have s2 : IntKind.i64.wrap ((m : Int) + e - 1) = (m : Int) + e - 1 := IntWalk.i64_in _ (by omega)
      have e0 : ¬ e = 0 := by omega
      have hq : ((m : Int) + e - 1).tdiv e = (c : Int) := by
        rw [Int.tdiv_eq_ediv_of_nonneg (by omega), hc, Int.natCast_ediv]
        congr 1
        omega
      have hcc : c ≤ 1024 := by
        have := cnt_le (manyL e m) 5
        rw [manyL_cnt e (by omega) m, manyL_len, ← hc] at this
        omega
      have s3 : IntKind.i64.wrap (c : Int) = (c : Int) := IntWalk.i64_in _ (by omega)
      have hlen := manyL_len e m
      have hcnt := manyL_cnt e (by omega) m
      rw [← hc] at hcnt
      have Hlen := Lib.hid hlen
      have Hcnt := Lib.hid hcnt
      have Hst := Lib.hid hst
      have Hu := Lib.hid hu
      have Hrules := Lib.hid (And.intro hif (And.intro s1 (And.intro s2 (And.intro e0 (And.intro hq s3)))))
      clear hlen hcnt hst hu hc hif s1 s2 e0 hq s3
      go_wp2_with fail
      refine (spawn_nil _).mono ?_
      rintro e' w2 ⟨rfl, rfl⟩
      go_wp2_with fail
      refine wp_head_still 2 (by kernel_rfl) (by kernel_rfl) ?_
      simp only [List.take_succ_cons, List.take_zero, List.drop_succ_cons, List.drop_zero]
      go_wp2_with fail
      refine (stold_c _).mono ?_
      rintro e' w3 ⟨rfl, u3⟩
      have u13 : Upd (fun _ => False) w w3 := (Hu.out.drew).tail u3 (fun _ h => h.elim)
      have hst3 : StAt w3 a row (manyL e m) := (Hst.out.upd (S := fun _ => False) (Upd.refl _ _).drew (fun _ _ e => e)).keep u3
      have c1 := slen_c hst3
      have c2 := count_c hst3 5
      have e5 : cntK (manyL e m) 5 = (c : Int) := by
        unfold cntK
        rw [if_pos (by omega), Hcnt.out]
      rw [Hlen.out] at c1
      rw [e5] at c2
      have C1 := Lib.hid c1
      have C2 := Lib.hid c2
      have U13 := Lib.hid u13
      clear c1 c2 e5 u13 hst3 u3
      go_wp2_with fail
      obtain ⟨hif, s1, s2, e0, hq, s3⟩ := Hrules.out
      repeat still_step
      still_call (still_of C1.out)
      repeat still_step
      still_call (still_of C2.out)
      repeat still_step
      still_call (still_of (of_nil _ 0))
      repeat still_step
      still_call (still_of (slen_nil _))
      repeat still_step
      refine wpStill_nil ?_
      go_wp2_with fail
      go_ret
      exact ⟨rfl, U13.out.below'⟩

set_option maxRecDepth 100000 in
theorem lifted (os : Os) (started : os.Started) (H : Type) (enc : TypeId × Value → H) :
    ReturnsInHanded {} Try.checked os 5 .any (Rows.stateManySpec.pre6 enc Try.prog Try.f5 Rows.stateManyRow.domain false) (Rows.stateManySpec.post enc Try.prog Try.f5 false true false false) := by
  refine returnsInHanded_of_change (C := Try.checked) Try.ownK started (by kernel_rfl) Try.func5
    (ChangeSpec.witness6 (enc := enc) (C := Try.checked) false ⟨#[], #[.int .i64 0, .int .i64 0], []⟩ 8 (by kernel_rfl) (by kernel_rfl) (by kernel_rfl) (by kernel_rfl)) ?_
  intro W base args ds gs before hval0 hW hcnd _
  have hval : ∀ (j : Nat) t v, Try.f5.params[j]? = some t → args[j]? = some v → Value.okWide Try.prog W .any base t v := hval0
  have hW' := hW
  obtain ⟨p, q, hA0, hV, rfl, hfz, hnd⟩ := hW
  have hA : DataW.TrodAll enc Try.prog W 0 (fun _ => true) true Try.f5.params.toList args.toList ds p := hA0
  rw [Try.params5] at hA hval
  obtain ⟨v0, vs0, d0, ds0, p0, q0, hargs, rfl, rfl, h0, r0⟩ := trodAll_cons hA
  obtain ⟨v1, vs1, d1, ds1, p1, q1, rfl, rfl, rfl, h1, r1⟩ := trodAll_cons r0
  obtain ⟨rfl, rfl, rfl⟩ := trodAll_nil r1
  obtain rfl : args = #[v0, v1] := by cases args; simp_all
  obtain ⟨rfl, rfl⟩ := trodVars_none hV
  obtain ⟨a0, rfl, rfl, rfl, _⟩ := open_int Try.underlying3 (hval 0 3 v0 rfl rfl) h0
  obtain ⟨a1, rfl, rfl, rfl, _⟩ := open_int Try.underlying3 (hval 1 3 v1 rfl rfl) h1
  clear hA0 hval0
  refine (walk a0 a1 W).mono fun e W' ⟨he, hb⟩ => ?_
  subst he
  exact ⟨_, rfl, law_post Try.laidB rfl rfl rfl Try.underlying4 (by kernel_rfl) hW' hb⟩

theorem proved : Rows.StateManySaid :=
  OpenClaim.holds_of_wide 5 Try.f5 rfl rfl rfl rfl rfl rfl rfl ⟨rfl, rfl, rfl, rfl, rfl⟩ rfl rfl rfl rfl rfl (by kernel_rfl) Try.func5 (by kernel_rfl)
    (of_decide_eq_true (by kernel_rfl)) (by unfold Func.isWrapper; first | (rw [if_pos (by decide +kernel)]; kernel_rfl) | (rw [if_neg (by decide +kernel)]; exact ⟨rfl, rfl⟩))
    (fun os started H enc _ => lifted os started H enc)
#print axioms proved
end Go.Proofs.Ytfcbidlpficdgaa.stateMany
