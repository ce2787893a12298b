/- 'Rows.TimerTwiceSaid': treadmilllaw13.TimerTwice returns true for any three integers. No condition. -/
import Derived.Test.YtgamaaeippdomaaTmH
import Derived.WalkLawsBesides
namespace Go.Proofs.Ytgamaaeippdomaa.timerTwice
open Go.ChangeShapes Go.WideShapes Go.ChangeAt Go.RowKit

def three (x y z : Nat) : List Sl := [⟨(x : Int), 1, 1⟩, ⟨(z : Int), 2, 2⟩, ⟨(y : Int), 1, 3⟩]
theorem next3 {x y z : Nat} {l : List Sl} (hp : l.Perm (three x y z)) (hh : IsHeap l l.length) : nextL l = (min (x : Int) (min (y : Int) (z : Int)), true) := by
  have hl := hp.length_eq
  obtain ⟨h1, ⟨s, hs, h2⟩, h3⟩ := next_min hh (by rw [hl]; simp [three])
  have hs' := hp.subset hs
  have g1 := h3 ⟨(x : Int), 1, 1⟩ (hp.symm.subset (by simp [three]))
  have g2 := h3 ⟨(z : Int), 2, 2⟩ (hp.symm.subset (by simp [three]))
  have g3 := h3 ⟨(y : Int), 1, 3⟩ (hp.symm.subset (by simp [three]))
  refine Prod.ext ?_ h1
  simp only [three, List.mem_cons, List.not_mem_nil, or_false] at hs'
  simp only at g1 g2 g3 ⊢
  rw [← h2] at g1 g2 g3 ⊢
  rcases hs' with rfl | rfl | rfl <;> simp only at * <;> omega
theorem del3 {x y z : Nat} {l l2 : List Sl} {b : Bool} (hp : l.Perm (three x y z)) (hd : DelPost l 1 b l2) : b = true ∧ ∃ o : Sl, o.g = 1 ∧ o.when = max (x : Int) (y : Int) ∧ l2.Perm [⟨(z : Int), 2, 2⟩, o] := by
  have m1 : (⟨(x : Int), 1, 1⟩ : Sl) ∈ l := hp.symm.subset (by simp [three])
  have m3 : (⟨(y : Int), 1, 3⟩ : Sl) ∈ l := hp.symm.subset (by simp [three])
  rcases hd with ⟨_, _, hn⟩ | ⟨hb, s, hs, hg, hmin, hp2⟩
  · exact absurd rfl (hn _ m1)
  · refine ⟨hb, ?_⟩
    have n1 := hmin _ m1 rfl
    have n3 := hmin _ m3 rfl
    unfold ltS at n1 n3
    simp only at n1 n3
    have hs' := hp.subset hs
    simp only [three, List.mem_cons, List.not_mem_nil, or_false] at hs'
    have hq : (l2 ++ [s]).Perm (three x y z) := hp2.trans hp
    rcases hs' with rfl | rfl | rfl
    · refine ⟨⟨(y : Int), 1, 3⟩, rfl, by simp only at *; omega, ?_⟩
      refine (List.perm_append_right_iff [⟨(x : Int), 1, 1⟩]).1 (hq.trans ?_)
      exact List.perm_append_comm (l₁ := [(⟨(x : Int), 1, 1⟩ : Sl)]) (l₂ := [⟨(z : Int), 2, 2⟩, ⟨(y : Int), 1, 3⟩])
    · simp at hg
    · refine ⟨⟨(x : Int), 1, 1⟩, rfl, by simp only at *; omega, ?_⟩
      refine (List.perm_append_right_iff [⟨(y : Int), 1, 3⟩]).1 (hq.trans ?_)
      exact List.Perm.swap _ _ _
def one (s : Sl) : Bool := s.g == 1
theorem due3a {x y z : Nat} {l xs l2 : List Sl} {o : Sl} (ho : o.g = 1) (hw : o.when = max (x : Int) (y : Int)) (hp : l.Perm [⟨(z : Int), 2, 2⟩, o]) (h1 : DuePost l (min (x : Int) (y : Int)) xs l2) : xs.countP one = (if x = y then 1 else 0) := by
  rw [h1.countP, hp.countP_eq]
  simp only [List.countP_cons, List.countP_nil, one, ho, hw]
  by_cases e : x = y
  · subst e; simp
  · rw [if_neg e]
    have : ¬ max (x : Int) (y : Int) ≤ min (x : Int) (y : Int) := by omega
    simp [this]
theorem due3 {x y z : Nat} {l xs l2 xs2 l3 : List Sl} {o : Sl} (hx : x < 100) (hy : y < 100) (hz : z < 100) (ho : o.g = 1) (hw : o.when = max (x : Int) (y : Int)) (hp : l.Perm [⟨(z : Int), 2, 2⟩, o]) (h1 : DuePost l (min (x : Int) (y : Int)) xs l2) (h2 : DuePost l2 100 xs2 l3) :
    xs.countP one + xs2.countP one = 1 ∧ xs.length + xs2.length = 2 ∧ l3 = [] := by
  have hall : ∀ s ∈ l, s.when ≤ 100 := by
    intro s hs
    have := hp.subset hs
    simp only [List.mem_cons, List.not_mem_nil, or_false] at this
    rcases this with rfl | rfl
    · simp only; omega
    · omega
  have h3 : l3 = [] := by
    cases h : l3 with
    | nil => rfl
    | cons s r =>
      have hs : s ∈ l3 := by rw [h]; simp
      have g1 := h2.left s hs
      have g2 := hall s (h1.perm.subset (List.mem_append_right _ (h2.perm.subset (List.mem_append_right _ hs))))
      omega
  subst h3
  have e2 : xs2.Perm l2 := by simpa using h2.perm
  have ep : (xs ++ xs2).Perm [⟨(z : Int), 2, 2⟩, o] := ((List.Perm.append_left xs e2).trans h1.perm).trans hp
  have hl := ep.length_eq
  rw [List.length_append] at hl
  have hc := ep.countP_eq one
  rw [List.countP_append] at hc
  refine ⟨?_, by simpa using hl, rfl⟩
  rw [hc]
  simp [one, ho]

theorem countP_take (xs : List Sl) (k : Nat) (h : k < xs.length) : (xs.take (k + 1)).countP one = (xs.take k).countP one + if (at0 xs k).g = 1 then 1 else 0 := by
  rw [List.take_succ_eq_append_getElem h, List.countP_append]
  have e : xs[k] = at0 xs k := by simp [at0, List.getD, h]
  rw [e]
  simp [List.countP_cons, one]
theorem min3 (x y z : Int) (w : World) (ts : Array TypeId) (t : TypeId) : (Builtin.min_ ts t #[.int .i64 x, .int .i64 y, .int .i64 z]).run Try.prog w = .ok (.int .i64 (min x (min y z))) w := by
  rw [run_min_int3]
  congr 2
  split <;> split at * <;> (try split at *) <;> omega
theorem min2 (x y : Int) (w : World) (ts : Array TypeId) (t : TypeId) : (Builtin.min_ ts t #[.int .i64 x, .int .i64 y]).run Try.prog w = .ok (.int .i64 (min x y)) w := by
  rw [run_min_int2]
  congr 2
  split <;> omega
set_option maxRecDepth 100000 in
set_option maxHeartbeats 4000000 in
theorem walk (a b c : Int) (w : World) :
    Calls Try.prog 4 #[.int .i64 a, .int .i64 b, .int .i64 c] w fun e w' => e = .returned (.bool true) ∧ Below w.heap.size w w' := by
  obtain ⟨x, hx⟩ : ∃ x, x = umod a 100 := ⟨_, rfl⟩
  obtain ⟨y, hy⟩ : ∃ x, x = umod b 100 := ⟨_, rfl⟩
  obtain ⟨z, hz⟩ : ∃ x, x = umod c 100 := ⟨_, rfl⟩
  have hx1 : x < 100 := by rw [hx]; exact umod_lt _ _ (by omega)
  have hy1 : y < 100 := by rw [hy]; exact umod_lt _ _ (by omega)
  have hz1 : z < 100 := by rw [hz]; exact umod_lt _ _ (by omega)
  have ex : wrap64 ((IntKind.u64.wrap a).tmod 100) = (x : Int) := by rw [hx]; exact umod_w64 _ 100 100 rfl (by omega) (by omega)
  have ey : wrap64 ((IntKind.u64.wrap b).tmod 100) = (y : Int) := by rw [hy]; exact umod_w64 _ 100 100 rfl (by omega) (by omega)
  have ez : wrap64 ((IntKind.u64.wrap c).tmod 100) = (z : Int) := by rw [hz]; exact umod_w64 _ 100 100 rfl (by omega) (by omega)
  clear hx hy hz
  go_enter Try.func4, Try.ntmps4
  go_wp2_with fail
  refine (tnew_h (Upd.refl _ _)).mono ?_
  rintro e w1 ⟨rfl, h1⟩
  obtain ⟨t, ht⟩ : ∃ t, t = w.heap.size := ⟨_, rfl⟩
  rw [← ht] at h1 ⊢
  clear ht
  go_wp2_with fail
  refine (tadd_h (made := 0) h1 (by simp) (by omega) x 1).mono ?_
  rintro e w2 ⟨rfl, l2, h2, p2⟩
  have n2 := p2.length_eq
  go_wp2_with fail
  refine (tadd_h (made := 1) h2 (by rw [n2]; simp) (by omega) z 2).mono ?_
  rintro e w3 ⟨rfl, l3, h3, p3⟩
  have n3 := p3.length_eq
  rw [List.length_append, n2] at n3
  go_wp2_with fail
  refine (tadd_h (made := 2) h3 (by rw [n3]; simp) (by omega) y 1).mono ?_
  rintro e w4 ⟨rfl, l4, h4, p4⟩
  have p : l4.Perm (three x y z) := p4.trans ((p3.trans (p2.append_right _)).append_right _)
  have n4 := p.length_eq
  simp [three] at n4
  have H4 := Lib.hid h4
  have P := Lib.hid p
  have N4 := Lib.hid n4
  clear h1 h2 h3 h4 p2 p3 p4 n2 n3 n4 p ex ey ez
  go_wp2_with fail
  refine (tlen_h H4.out).mono ?_
  rintro e w5 ⟨rfl, rfl⟩
  rw [N4.out]
  go_wp2_with fail
  refine (tnext_h H4.out).mono ?_
  rintro e w5 ⟨rfl, rfl⟩
  rw [next3 P.out H4.out.2]
  have m3 := fun w ts t => min3 (x : Int) (y : Int) (z : Int) w ts t
  have m2 := fun w ts t => min2 (x : Int) (y : Int) w ts t
  have Hm2 : Hid (min (x : Int) (y : Int) = min (x : Int) (y : Int)) := Lib.hid rfl
  obtain ⟨m, hm⟩ : ∃ m, m = min (x : Int) (y : Int) := ⟨_, rfl⟩
  obtain ⟨n, hn⟩ : ∃ n, n = min (x : Int) (min (y : Int) (z : Int)) := ⟨_, rfl⟩
  rw [← hn] at m3 ⊢
  rw [← hm] at m2
  have Hm := Lib.hid hm
  clear hm hn
  go_wp2_with fail
  refine (tdel_h H4.out (by rw [N4.out]; omega) 1).mono ?_
  rintro e w6 ⟨bb, l6, rfl, hd, h6⟩
  obtain ⟨rfl, o, ho, hw, hp6⟩ := del3 P.out hd
  have H6 := Lib.hid h6
  have Ho := Lib.hid ho
  have Hw := Lib.hid hw
  have Hp6 := Lib.hid hp6
  have hn6 := hp6.length_eq
  simp at hn6
  have Hn6 := Lib.hid hn6
  clear hd ho hw hp6 h6 hn6
  go_wp2_with fail
  refine (tlen_h H6.out).mono ?_
  rintro e w7 ⟨rfl, rfl⟩
  rw [Hn6.out]
  go_wp2_with fail
  refine (tdue_h H6.out (by rw [Hn6.out]; omega) m).mono ?_
  rintro e w8 ⟨o1, xs, l8, rfl, ⟨r8, hr8, _⟩, h8, hd8⟩
  have hr8' : Row w8 3 r8 o1 ((xs.map (·.g)).map (Value.int .i64)) := hr8
  obtain ⟨B, capB, rfl, hB⟩ := hr8'.rdf
  rw [List.length_map] at hB ⊢
  rw [Hm.out] at hd8
  have hc1 := due3a Ho.out Hw.out Hp6.out hd8
  have hn8 := hd8.perm.length_eq
  rw [List.length_append, Hn6.out] at hn8
  have HB := Lib.hid hB
  have H8 := Lib.hid h8
  have Hd8 := Lib.hid hd8
  have Hc1 := Lib.hid hc1
  have Hn8 := Lib.hid hn8
  clear hr8 hr8' hB h8 hd8 hc1 hn8
  go_wp2_with fail
  go_loop [14, 15] (fun v14 vi => ∃ k : Nat, k ≤ xs.length ∧ vi = .int .i64 k ∧ v14 = .int .i64 (((0:Nat) : Int) + (xs.take k).countP one)) (fun _ vi => xs.length - (intOf vi).toNat)
  case atStart => exact ⟨0, by omega, rfl, by simp⟩
  case round =>
    obtain ⟨k, hk, rfl, rfl⟩ := hrel
    have hcl : (xs.take k).countP one ≤ k := Nat.le_trans List.countP_le_length (List.length_take_le _ _)
    have hcc : xs.length < 1000 := by have := Hn8.out; omega
    by_cases hlt : k < xs.length
    · obtain ⟨bk, off, rfl, _, hcells⟩ := HB.out.2 (by omega)
      have hcell : w8.cell? ⟨bk, off + k, none⟩ = some (.int .i64 (at0 xs k).g) := by
        have := hcells k hlt 0 (by omega)
        rw [Nat.mul_one, Nat.add_zero] at this
        rw [this]
        simp [at0, List.getD, hlt]
      have hct := countP_take xs k hlt
      have Hct := Lib.hid hct
      clear hcells hct
      by_cases h1 : (at0 xs k).g = 1
      · have h1b : ((at0 xs k).g == 1) = true := by simpa using h1
        have H1 := Lib.hid h1
        clear h1
        go_wp2_with fail
        go_round
        case rel => exact ⟨k + 1, by omega, by go_num, by rw [Hct.out, if_pos H1.out]; go_num⟩
        case measure => simp [intOf]; omega
      · have h1b : ((at0 xs k).g == 1) = false := by simpa using h1
        have H1 := Lib.hid h1
        clear h1
        go_wp2_with fail
        go_round
        case rel => exact ⟨k + 1, by omega, by go_num, by rw [Hct.out, if_neg H1.out]; rfl⟩
        case measure => simp [intOf]; omega
    · have hkk : k = xs.length := by omega
      subst hkk
      rw [List.take_of_length_le (Nat.le_refl _)] at hcl ⊢
      clear hlt
      have hc8 : xs.countP one ≤ 2 := by have := Hn8.out; omega
      obtain ⟨cc, hcc2⟩ : ∃ cc : Nat, cc = xs.countP one := ⟨_, rfl⟩
      obtain ⟨bb, hbb⟩ : ∃ bb : Bool, bb = decide (x = y) := ⟨_, rfl⟩
      have hb1 : ((cc : Int) == 1) = bb := by
        rw [hcc2, Hc1.out, hbb]
        by_cases e : x = y
        · simp [e]
        · simp [e]
      have hb2 : ((x : Int) == (y : Int)) = bb := by rw [hbb]; by_cases e : x = y <;> (simp [e]; try omega)
      rw [← hcc2] at hcl hc8 ⊢
      have Hcc2 := Lib.hid hcc2
      clear hbb hcc2 Hc1
      go_wp2_with fail
      clear hb1 hb2
      refine (tdue_h H8.out (by have := Hn8.out; omega) 100).mono ?_
      rintro e w9 ⟨o2, ys, l9, rfl, ⟨r9, hr9, _⟩, h9, hd9⟩
      have hr9' : Row w9 3 r9 o2 ((ys.map (·.g)).map (Value.int .i64)) := hr9
      obtain ⟨B9, capB9, rfl, hB9⟩ := hr9'.rdf
      rw [List.length_map] at hB9 ⊢
      obtain ⟨d1, d2, rfl⟩ := due3 hx1 hy1 hz1 Ho.out Hw.out Hp6.out Hd8.out hd9
      rw [← Hcc2.out] at d1
      have HB9 := Lib.hid hB9
      have H9 := Lib.hid h9
      have D1 := Lib.hid d1
      have Hn9 := Lib.hid d2
      clear hr9 hr9' hB9 h9 hd9 d1 d2
      go_wp2_with fail
      go_loop [14, 17] (fun v14 vi => ∃ k : Nat, k ≤ ys.length ∧ vi = .int .i64 k ∧ v14 = .int .i64 ((cc : Int) + (ys.take k).countP one)) (fun _ vi => ys.length - (intOf vi).toNat)
      case atStart => exact ⟨0, by omega, rfl, by simp⟩
      case round =>
        obtain ⟨k, hk, rfl, rfl⟩ := hrel
        have hcl : (ys.take k).countP one ≤ k := Nat.le_trans List.countP_le_length (List.length_take_le _ _)
        have hcc : ys.length < 1000 := by have := Hn9.out; omega
        by_cases hlt : k < ys.length
        · obtain ⟨bk, off, rfl, _, hcells⟩ := HB9.out.2 (by omega)
          have hcell : w9.cell? ⟨bk, off + k, none⟩ = some (.int .i64 (at0 ys k).g) := by
            have := hcells k hlt 0 (by omega)
            rw [Nat.mul_one, Nat.add_zero] at this
            rw [this]
            simp [at0, List.getD, hlt]
          have hct := countP_take ys k hlt
          have Hct := Lib.hid hct
          clear hcells hct
          by_cases h1 : (at0 ys k).g = 1
          · have h1b : ((at0 ys k).g == 1) = true := by simpa using h1
            have H1 := Lib.hid h1
            clear h1
            go_wp2_with fail
            go_round
            case rel => exact ⟨k + 1, by omega, by go_num, by rw [Hct.out, if_pos H1.out]; go_num⟩
            case measure => simp [intOf]; omega
          · have h1b : ((at0 ys k).g == 1) = false := by simpa using h1
            have H1 := Lib.hid h1
            clear h1
            go_wp2_with fail
            go_round
            case rel => exact ⟨k + 1, by omega, by go_num, by rw [Hct.out, if_neg H1.out]; rfl⟩
            case measure => simp [intOf]; omega
        · have hkk : k = ys.length := by omega
          subst hkk
          rw [List.take_of_length_le (Nat.le_refl _)] at hcl ⊢
          clear hlt
          have Hn92 : ((xs.length : Int) + (ys.length : Int)) = 2 := by have := Hn9.out; omega
          have D12 : ((cc : Int) + ((ys.countP one : Nat) : Int)) = 1 := by have := D1.out; omega
          have hxl : xs.length ≤ 2 := by have := Hn9.out; omega
          have hyl : ys.length ≤ 2 := by have := Hn9.out; omega
          go_wp2_with fail
          refine (ttold_c _).mono ?_
          rintro e w10 ⟨rfl, u10⟩
          go_wp2_with fail
          refine (tlen_h (H9.out.upd u10)).mono ?_
          rintro e w11 ⟨rfl, rfl⟩
          go_wp2_with fail
          go_ret
          exact ⟨rfl, (H9.out.upd u10).u.below'⟩
set_option maxRecDepth 100000 in
theorem lifted (os : Os) (started : os.Started) (H : Type) (enc : TypeId × Value → H) :
    ReturnsInHanded {} Try.checked os 4 .any (Rows.timerTwiceSpec.pre6 enc Try.prog Try.f4 Rows.timerTwiceRow.domain false) (Rows.timerTwiceSpec.post enc Try.prog Try.f4 false true false false) := by
  refine returnsInHanded_of_change (C := Try.checked) Try.ownK started (by kernel_rfl) Try.func4
    (ChangeSpec.witness6 (enc := enc) (C := Try.checked) false ⟨#[], #[.int .i64 0, .int .i64 0, .int .i64 0], []⟩ 8 (by kernel_rfl) (by kernel_rfl) (by kernel_rfl) (by kernel_rfl)) ?_
  intro W base args ds gs before hval0 hW hcnd _
  have hval : ∀ (j : Nat) t v, Try.f4.params[j]? = some t → args[j]? = some v → Value.okWide Try.prog W .any base t v := hval0
  have hW' := hW
  obtain ⟨p, q, hA0, hV, rfl, hfz, hnd⟩ := hW
  have hA : DataW.TrodAll enc Try.prog W 0 (fun _ => true) true Try.f4.params.toList args.toList ds p := hA0
  rw [Try.params4] at hA hval
  obtain ⟨v0, vs0, d0, ds0, p0, q0, hargs, rfl, rfl, h0, r0⟩ := trodAll_cons hA
  obtain ⟨v1, vs1, d1, ds1, p1, q1, rfl, rfl, rfl, h1, r1⟩ := trodAll_cons r0
  obtain ⟨v2, vs2, d2, ds2, p2, q2, rfl, rfl, rfl, h2, r2⟩ := trodAll_cons r1
  obtain ⟨rfl, rfl, rfl⟩ := trodAll_nil r2
  obtain rfl : args = #[v0, v1, v2] := by cases args; simp_all
  obtain ⟨rfl, rfl⟩ := trodVars_none hV
  obtain ⟨a0, rfl, rfl, rfl, _⟩ := open_int Try.underlying3 (hval 0 3 v0 rfl rfl) h0
  obtain ⟨a1, rfl, rfl, rfl, _⟩ := open_int Try.underlying3 (hval 1 3 v1 rfl rfl) h1
  obtain ⟨a2, rfl, rfl, rfl, _⟩ := open_int Try.underlying3 (hval 2 3 v2 rfl rfl) h2
  clear hA0 hval0
  refine (walk a0 a1 a2 W).mono fun e W' ⟨he, hb⟩ => ?_
  subst he
  exact ⟨_, rfl, law_post Try.laidB rfl rfl rfl Try.underlying4 (by kernel_rfl) hW' hb⟩

theorem proved : Rows.TimerTwiceSaid :=
  OpenClaim.holds_of_wide 4 Try.f4 rfl rfl rfl rfl rfl rfl rfl ⟨rfl, rfl, rfl, rfl, rfl⟩ rfl rfl rfl rfl rfl (by kernel_rfl) Try.func4 (by kernel_rfl)
    (of_decide_eq_true (by kernel_rfl)) (by unfold Func.isWrapper; first | (rw [if_pos (by decide +kernel)]; kernel_rfl) | (rw [if_neg (by decide +kernel)]; exact ⟨rfl, rfl⟩))
    (fun os started H enc _ => lifted os started H enc)
#print axioms proved
end Go.Proofs.Ytgamaaeippdomaa.timerTwice
