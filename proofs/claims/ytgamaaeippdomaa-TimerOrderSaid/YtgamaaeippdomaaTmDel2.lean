/- timer: sorted, Del, All. -/
import Derived.Test.YtgamaaeippdomaaTmDel
import Derived.Test.YtgamaaeippdomaaTmRem
import Derived.Deep.RegionWith
namespace Go.Proofs.Ytgamaaeippdomaa
open Go.RowKit

/-- A list of sleepers in memory that is new since w. -/
def NewSl (w w' : World) (v : Value) (l : List Sl) : Prop := ∃ row, SlAt w' row v l ∧ ∀ k, row = some k → w.heap.size ≤ k

theorem ins0_c (v f : Value) (w : World) : Calls Try.prog 35 #[v, .int .i64 0, .int .i64 0, f] w fun e w' => e = .returned (.tuple #[]) ∧ w = w' := by
  go_enter Try.func35, Try.ntmps35
  go_wp2_with fail
  refine wp_loop_rounds 1 ?_
  rw [rounds_succ]
  go_wp2_with fail
  go_end0
  exact ⟨rfl, rfl⟩
set_option maxRecDepth 100000 in
theorem pdq0_c (v f : Value) (m : Int) (w : World) : Calls Try.prog 30 #[v, .int .i64 0, .int .i64 0, .int .i64 m, f] w fun e w' => e = .returned (.tuple #[]) ∧ w = w' := by
  go_enter Try.func30, Try.ntmps30
  go_wp2_with fail
  refine wp_loop_rounds 1 ?_
  rw [rounds_succ]
  go_wp2_with fail
  refine (ins0_c _ _ _).mono ?_
  rintro e w1 ⟨rfl, rfl⟩
  go_wp2_with fail
  go_returns
  exact ⟨rfl, rfl⟩
theorem bits0_c (w : World) : Calls Try.prog 31 #[.int .u64 0] w fun e w' => e = .returned (.int .i64 0) ∧ w = w' := by
  have h := Any.bits_Len (SlLaysF0.n15.bits (P := Try.prog) (ρ := sortSl_ren) { sortSl with }) 0 w (by omega) (by omega)
  refine h.mono ?_
  rintro e w' ⟨rfl, rfl⟩
  exact ⟨rfl, rfl⟩
theorem sort0_c {w : World} {v : Value} (hv : v = .slice none 0 0 ∨ ∃ a c, v = .slice (some a) 0 c) :
    Calls Try.prog 28 #[v, .func (.func 29) #[] #[]] w fun e w' => e = .returned (.tuple #[]) ∧ w = w' := by
  rcases hv with rfl | ⟨a, c, rfl⟩
  · go_enter Try.func28, Try.ntmps28
    go_wp2_with fail
    refine (bits0_c _).mono ?_
    rintro e w1 ⟨rfl, rfl⟩
    go_wp2_with fail
    refine (pdq0_c _ _ _ _).mono ?_
    rintro e w1 ⟨rfl, rfl⟩
    go_wp2_with fail
    go_end0
    exact ⟨rfl, rfl⟩
  · go_enter Try.func28, Try.ntmps28
    go_wp2_with fail
    refine (bits0_c _).mono ?_
    rintro e w1 ⟨rfl, rfl⟩
    go_wp2_with fail
    refine (pdq0_c _ _ _ _).mono ?_
    rintro e w1 ⟨rfl, rfl⟩
    go_wp2_with fail
    go_end0
    exact ⟨rfl, rfl⟩
theorem clone0_c (w : World) : Calls Try.prog 27 #[.slice none 0 0] w fun e w' => e = .returned (.slice none 0 0) ∧ w = w' := by
  have hq := fun (w : World) => Lib.run_eql_slice_nil (P := Try.prog) w 50 57 none 0 0 0 0 Try.underlying50
  go_enter Try.func27, Try.ntmps27
  go_wp2_with fail
  go_ret
  exact ⟨rfl, rfl⟩
set_option maxRecDepth 100000 in
set_option maxHeartbeats 1000000 in
theorem tsorted_c {w : World} {t : Nat} {row : Option Nat} {v : Value} {l : List Sl} {made : Int} (h : HAt w t row v l made) (hl : l.length < 900000) :
    Calls Try.prog 22 #[.pointer (some ⟨t, 0, none⟩)] w fun e w' => ∃ o l', e = .returned o ∧ l'.Perm l ∧ l'.Pairwise (fun a b => ¬ ltS b a) ∧ NewSl w w' o l' ∧ Upd (fun _ => False) w w' := by
  have c0 : w.cell? ⟨t, 0, none⟩ = some v := h.blk.cell 0
  cases l with
  | nil =>
    rcases h.row.form with ⟨rfl, _, _⟩ | ⟨g, cap, _, rfl, hr, _⟩
    · clear h hl
      go_enter Try.func22, Try.ntmps22
      go_wp2_with fail
      refine (clone0_c _).mono ?_
      rintro e w1 ⟨rfl, rfl⟩
      go_wp2_with fail
      refine (sort0_c (.inl rfl)).mono ?_
      rintro e w1 ⟨rfl, rfl⟩
      go_wp2_with fail
      go_ret
      exact ⟨_, [], rfl, List.Perm.refl _, .nil, ⟨none, RowN.nil _ _ _, fun k hk => by cases hk⟩, Upd.refl _ _⟩
    · subst hr
      have hcl := Lib.hid (clone_c h.row (by simp))
      clear h hl
      go_enter Try.func22, Try.ntmps22
      go_wp2_with fail
      refine hcl.out.mono ?_
      rintro e w1 ⟨v1, r1, rfl, h1, u1, f1⟩
      have hv1 : v1 = .slice none 0 0 ∨ ∃ a c, v1 = .slice (some a) 0 c := by
        rcases h1.form with ⟨hv, _, _⟩ | ⟨g, cap, _, hv, _⟩
        · exact .inl hv
        · exact .inr ⟨_, _, hv⟩
      have Hv1 := Lib.hid hv1
      have H1 := Lib.hid h1
      have F1 := Lib.hid f1
      clear hcl hv1 h1 f1
      go_wp2_with fail
      refine (sort0_c Hv1.out).mono ?_
      rintro e w2 ⟨rfl, rfl⟩
      go_wp2_with fail
      go_ret
      exact ⟨v1, [], rfl, List.Perm.refl _, .nil, ⟨r1, H1.out, F1.out⟩, u1⟩
  | cons s l =>
    obtain ⟨g, cap, rfl, rfl⟩ := h.some (by simp)
    have hcl := Lib.hid (clone_c h.row (by omega))
    generalize hL : s :: l = L at *
    clear h
    go_enter Try.func22, Try.ntmps22
    go_wp2_with fail
    refine hcl.out.mono ?_
    rintro e w1 ⟨v1, r1, rfl, h1, u1, f1⟩
    have hL0 : 0 < L.length := by rw [← hL]; simp
    obtain ⟨g1, cap1, rfl, rfl⟩ : ∃ g1 cap1, v1 = .slice (some ⟨g1, 0, none⟩) L.length cap1 ∧ r1 = some g1 := by
      rcases h1.form with ⟨_, h0, _⟩ | ⟨g1, cap1, _, hv, hr, _⟩
      · omega
      · exact ⟨g1, cap1, hv, hr⟩
    have hso := Lib.hid (sort_c h1 (by omega))
    have hg1 := f1 g1 rfl
    clear h1 hcl f1
    go_wp2_with fail
    refine hso.out.mono ?_
    rintro e w2 ⟨rfl, l', p1, p2, h2, u2⟩
    have P1 := Lib.hid p1
    have P2 := Lib.hid p2
    have H2 := Lib.hid h2
    clear p1 p2 h2
    go_wp2_with fail
    go_ret
    exact ⟨_, l', rfl, P1.out, P2.out, ⟨some g1, by have := P1.out.length_eq; rw [← this] at H2 ⊢; exact H2.out, fun k hk => by injection hk with hk; omega⟩, u1.trans u2 (fun i hi => .inr (by omega))⟩
theorem rem_c {w : World} {t i : Nat} {row : Option Nat} {v : Value} {l : List Sl} {made : Int} (h : HAt w t row v l made) (hl : l.length < 900000) (hh : IsHeap l l.length) (hi : i < l.length) :
    Calls Try.prog 23 #[.iface 55 (.pointer (some ⟨t, 0, none⟩)), .int .i64 i] w fun e w' => e = .returned (.iface 57 (at0 l i).v) ∧
      ∃ v' l2, HAt w' t row v' l2 made ∧ IsHeap l2 l2.length ∧ (l2 ++ [at0 l i]).Perm l ∧ Upd (fun k => k = t ∨ row = some k) w w' := by
  obtain ⟨g, cap, rfl, rfl⟩ := h.some (by omega)
  obtain ⟨n, hn⟩ : ∃ n, l.length = n + 1 := ⟨l.length - 1, by omega⟩
  rw [hn] at hh
  obtain ⟨l2, e1, e2, e3, e4⟩ := rem_spec hn hh (by omega : i ≤ n)
  rw [hn] at h
  refine (hRem_c h hn (by omega) (by omega) e1).mono ?_
  rintro e w' ⟨rfl, h2, u2⟩
  exact ⟨rfl, _, l2, h2, by rw [e2]; exact e3, e4, u2.mono (fun k hk => .inl (hk.imp id (fun e => by rw [e])))⟩

/-- What Del leaves. -/
def DelPost (l : List Sl) (g : Int) (b : Bool) (l2 : List Sl) : Prop :=
  (b = false ∧ l2 = l ∧ ∀ x ∈ l, x.g ≠ g) ∨ (b = true ∧ ∃ x ∈ l, x.g = g ∧ (∀ y ∈ l, y.g = g → ¬ ltS y x) ∧ (l2 ++ [x]).Perm l)

set_option maxRecDepth 100000 in
set_option maxHeartbeats 4000000 in
theorem tdel_c {w : World} {t : Nat} {row : Option Nat} {v : Value} {l : List Sl} {made : Int} (h : HAt w t row v l made) (hl : l.length < 900000) (hh : IsHeap l l.length) (g : Int) :
    Calls Try.prog 14 #[.pointer (some ⟨t, 0, none⟩), .int .i64 g] w fun e w' => ∃ b v' l2, e = .returned (.bool b) ∧ DelPost l g b l2 ∧ HAt w' t row v' l2 made ∧ IsHeap l2 l2.length ∧ Upd (fun k => k = t ∨ row = some k) w w' := by
  have H := Lib.hid h
  have Hh := Lib.hid hh
  have htlt := h.blk.lt
  clear h hh
  go_enter Try.func14, Try.ntmps14
  go_wp2_with fail
  refine (tsorted_c H.out hl).mono ?_
  rintro e w1 ⟨o, l', rfl, p1, p2, ⟨r1, h1, f1⟩, u1⟩
  have hlen := p1.length_eq
  obtain ⟨A, cap, rfl⟩ : ∃ A cap, o = .slice A l'.length cap := by
    rcases h1.form with ⟨hv, h0, _⟩ | ⟨g, cap, _, hv, _⟩
    · exact ⟨none, 0, by rw [h0]; exact hv⟩
    · exact ⟨_, _, hv⟩
  have P1 := Lib.hid p1
  have P2 := Lib.hid p2
  have H1 := Lib.hid h1
  have U1 := Lib.hid u1
  have hl' : l'.length < 900000 := by omega
  clear p1 p2 h1 f1 u1 hlen
  go_wp2_with fail
  go_loopw [10] (fun v10 wr => ∃ k : Nat, k ≤ l'.length ∧ v10 = .int .i64 k ∧ (∀ j, j < k → (at0 l' j).g ≠ g) ∧ Upd (fun _ => False) w1 wr) (fun v10 _ => l'.length - (intOf v10).toNat)
  case atStart => exact ⟨0, by omega, rfl, fun j hj => absurd hj (by omega), Upd.refl _ _⟩
  case round =>
    obtain ⟨k, hk, rfl, hne, hu⟩ := hrel
    have Hne := Lib.hid hne
    have Hu := Lib.hid hu
    clear hne hu
    by_cases hlt : k < l'.length
    · obtain ⟨g2, cap2, hv2, _, c0, c1, c2, _, _⟩ := (show SlAt wr _ _ _ from RowN.upd H1.out Hu.out (fun _ _ e => e)).cells (at0_get hlt)
      injection hv2 with e1 _ e2
      subst e1 e2
      obtain ⟨x, hx⟩ : ∃ x, x = at0 l' k := ⟨_, rfl⟩
      rw [← hx] at c0 c1 c2
      have hkI : (k : Int) < (l'.length : Int) := by omega
      by_cases hg : x.g = g
      · have hxl : x ∈ l := P1.out.subset (by rw [hx]; exact at0_mem hlt)
        have hmin : ∀ y ∈ l, y.g = g → ¬ ltS y x := by
          intro y hy hyg
          obtain ⟨j, hj, e⟩ := mem_at0 (P1.out.symm.subset hy)
          have hjk : k ≤ j := by
            rcases Nat.lt_or_ge j k with h | h
            · exact absurd (e ▸ hyg) (Hne.out j h)
            · exact h
          rcases Nat.lt_or_ge k j with h | h
          · have h3 := List.pairwise_iff_getElem.1 P2.out k j hlt hj h
            have ea : ∀ i (hi : i < l'.length), l'[i] = at0 l' i := fun i hi => by simp [at0, List.getD, hi]
            rw [ea _ hlt, ea _ hj, e, ← hx] at h3
            exact h3
          · have : j = k := by omega
            rw [this, ← hx] at e
            rw [← e]
            exact ltS_irr x
        have Hxl := Lib.hid hxl
        have Hmin := Lib.hid hmin
        have hl0 : 0 < l.length := List.length_pos_of_mem hxl
        obtain ⟨g0, cap0, hv, hrow⟩ := H.out.some hl0
        have Hrow := Lib.hid hrow
        have Hv := Lib.hid hv
        clear hxl hmin hx hrow hv
        subst hg
        go_wp2_with fail
        obtain ⟨b, hb⟩ : ∃ b, b = wr.heap.size := ⟨_, rfl⟩
        rw [← hb]
        have hbox := Blk.new' wr 57 #[.int .i64 x.when, .int .i64 x.g, .int .i64 x.seq] hb
        have ua : Upd (fun _ => False) w (wr.alloc (.cells #[.int .i64 x.when, .int .i64 x.g, .int .i64 x.seq] 57)) := (U1.out.trans Hu.out (fun _ e => .inl e)).alloc _
        generalize hwa : wr.alloc (.cells #[.int .i64 x.when, .int .i64 x.g, .int .i64 x.seq] 57) = wa at *
        have b0 := hbox.cell 0
        have b1 := hbox.cell 1
        have b2 := hbox.cell 2
        simp at b0 b1 b2
        have hHa : ∀ W, Upd (fun _ => False) w W → HAt W t row v l made := fun W hW => H.out.upd hW (fun e => e) (fun _ _ e => e)
        have hidx : ∀ W, Upd (fun _ => False) w W → Calls Try.prog 24 #[v, .agg #[.int .i64 x.when, .int .i64 x.g, .int .i64 x.seq]] W fun e w' => ∃ i : Nat, e = .returned (.int .i64 i) ∧ i < l.length ∧ at0 l i = x ∧ Upd (fun _ => False) W w' := by
          intro W hW
          have h2 := (hHa W hW).row
          rw [Hv.out, Hrow.out] at h2
          rw [Hv.out]
          exact index_c h2 (by omega) Hxl.out
        have Hidx := Lib.hid hidx
        have HHa := Lib.hid hHa
        have Ua := Lib.hid ua
        have ct : wa.cell? ⟨t, 0, none⟩ = some v := (hHa wa ua).blk.cell 0
        clear hwa hbox hidx hHa ua hb c0 c1 c2
        go_region_with (first | (go_at_call 24; refine (Hidx.out _ (by first | exact Ua.out.drew | exact Ua.out.drewN _)).mono ?_; rintro e wi ⟨i, rfl, hi1, hi2, ui⟩) | (go_at_call 23; refine (rem_c (HHa.out _ (Ua.out.drew.trans ui (fun _ e => .inl e))) hl Hh.out hi1).mono ?_; rintro e w3 ⟨rfl, v3, l2, h3, hh3, hp3, u3⟩))
        all_goals
          have H3 := Lib.hid h3
          have Hh3 := Lib.hid hh3
          have Hp3 := Lib.hid hp3
          have U3 := Lib.hid u3
          have Hi2 := Lib.hid hi2
          clear h3 hh3 hp3 u3 hi2
          go_wp2_with fail
          go_ret
          exact ⟨true, v3, l2, rfl, .inr ⟨rfl, x, Hxl.out, rfl, Hmin.out, Hi2.out ▸ Hp3.out⟩, H3.out, Hh3.out, ((Ua.out.drew.trans ui (fun _ e => .inl e)).mono (fun _ e => e.elim)).trans U3.out (fun i e => .inl e)⟩
      · have hgb : (x.g == g) = false := by simpa using hg
        have hne2 : ∀ j, j < k + 1 → (at0 l' j).g ≠ g := by
          intro j hj
          rcases Nat.lt_succ_iff_lt_or_eq.1 hj with h | h
          · exact Hne.out j h
          · rw [h, ← hx]; exact hg
        have Hne2 := Lib.hid hne2
        have Hu2 := Lib.hid (Hu.out.alloc (.cells #[.int .i64 x.when, .int .i64 x.g, .int .i64 x.seq] 57))
        clear hne2 hg hx
        go_wp2_with fail
        go_roundw
        case rel => exact ⟨k + 1, by omega, by go_num, Hne2.out, Hu2.out⟩
        case measure => simp [intOf]; omega
    · have hk2 : k = l'.length := by omega
      subst hk2
      have hno : ∀ x ∈ l, x.g ≠ g := by
        intro y hy
        obtain ⟨j, hj, e⟩ := mem_at0 (P1.out.symm.subset hy)
        rw [← e]
        exact Hne.out j hj
      have Hno := Lib.hid hno
      clear hno
      go_wp2_with fail
      go_ret
      have u := U1.out.trans Hu.out (fun _ e => .inl e)
      exact ⟨false, v, l, rfl, .inl ⟨rfl, rfl, Hno.out⟩, H.out.upd u (fun e => e) (fun _ _ e => e), Hh.out, u.mono (fun _ e => e.elim)⟩

/-- What sleeps, as All tells it: two cells each. -/
def cells2 (l : List Sl) : List Value := l.flatMap fun s => [.int .i64 s.when, .int .i64 s.g]
theorem cells2_snoc (l : List Sl) (s : Sl) : cells2 (l ++ [s]) = cells2 l ++ [.int .i64 s.when, .int .i64 s.g] := by
  unfold cells2
  rw [List.flatMap_append]
  rfl
theorem cells2_get (l : List Sl) (i : Nat) (h : i < l.length) : (cells2 l)[i * 2]? = some (.int .i64 (at0 l i).when) ∧ (cells2 l)[i * 2 + 1]? = some (.int .i64 (at0 l i).g) := by
  induction l generalizing i with
  | nil => simp at h
  | cons x l ih =>
    have e : cells2 (x :: l) = .int .i64 x.when :: .int .i64 x.g :: cells2 l := rfl
    cases i with
    | zero => exact ⟨rfl, rfl⟩
    | succ i =>
      have h' := ih i (by simpa using h)
      have e1 : (i + 1) * 2 = i * 2 + 1 + 1 := by omega
      have e3 : at0 (x :: l) (i + 1) = at0 l i := rfl
      rw [e, e1, e3]
      exact h'
/-- Such a list, new since w. -/
def NewTm (w w' : World) (v : Value) (l : List Sl) : Prop := ∃ row, RowN w' 45 2 row v l.length (cells2 l) ∧ ∀ k, row = some k → w.heap.size ≤ k
theorem news_two (w : World) (x y : Value) (t : TypeId) : ∀ (j : Nat) (u : Value), [x, y][j]? = some u → (w.alloc (.cells #[x, y] t)).cell? ((⟨w.heap.size, 0, none⟩ : Addr).add j) = some u := by
  intro j u hj
  match j, hj with
  | 0, hj => simp at hj; subst hj; simp [Addr.add]
  | 1, hj => simp at hj; subst hj; simp [Addr.add]
theorem oneCell_two (a b : Int) : ∀ u ∈ [Value.int .i64 a, Value.int .i64 b], u.oneCell' = true := by
  intro u hu
  simp at hu
  rcases hu with rfl | rfl <;> rfl

set_option maxRecDepth 100000 in
set_option maxHeartbeats 4000000 in
theorem tall_c {w : World} {t : Nat} {row : Option Nat} {v : Value} {l : List Sl} {made : Int} (h : HAt w t row v l made) (hl : l.length < 900000) :
    Calls Try.prog 19 #[.pointer (some ⟨t, 0, none⟩)] w fun e w' => ∃ o l', e = .returned o ∧ l'.Perm l ∧ l'.Pairwise (fun a b => ¬ ltS b a) ∧ NewTm w w' o l' ∧ Upd (fun _ => False) w w' := by
  obtain ⟨i0, hi, hz0, hz1, hz2⟩ := info_parts (show Option.map (fun i => (i.zero, i.size, i.bytes)) (Try.prog.info? 45) = some (some (.agg #[.int .i64 0, .int .i64 0]), 2, 16) from by kernel_rfl)
  have H := Lib.hid h
  clear h
  go_enter Try.func19, Try.ntmps19
  go_wp2_with fail
  refine (tsorted_c H.out hl).mono ?_
  rintro e w1 ⟨o, l', rfl, p1, p2, ⟨r1, h1, f1⟩, u1⟩
  have hlen := p1.length_eq
  obtain ⟨A, cap, rfl⟩ : ∃ A cap, o = .slice A l'.length cap := by
    rcases h1.form with ⟨hv, h0, _⟩ | ⟨g, cap, _, hv, _⟩
    · exact ⟨none, 0, by rw [h0]; exact hv⟩
    · exact ⟨_, _, hv⟩
  have P1 := Lib.hid p1
  have P2 := Lib.hid p2
  have H1 := Lib.hid h1
  have U1 := Lib.hid u1
  have hl' : l'.length < 900000 := by omega
  clear p1 p2 h1 f1 u1 hlen
  go_wp2_with fail
  go_loopw [3, 9] (fun v3 v9 wr => ∃ k : Nat, k ≤ l'.length ∧ v9 = .int .i64 k ∧ NewTm w1 wr v3 (l'.take k) ∧ Upd (fun _ => False) w1 wr) (fun _ v9 _ => l'.length - (intOf v9).toNat)
  case atStart => exact ⟨0, by omega, rfl, ⟨none, RowN.nil _ _ _, fun k hk => by cases hk⟩, Upd.refl _ _⟩
  case round =>
    obtain ⟨k, hk, rfl, ⟨r3, h3, f3⟩, hu⟩ := hrel
    have H3 := Lib.hid h3
    have F3 := Lib.hid f3
    have Hu := Lib.hid hu
    clear h3 f3 hu
    by_cases hlt : k < l'.length
    · obtain ⟨g2, cap2, hv2, _, c0, c1, c2, _, _⟩ := (show SlAt wr _ _ _ from RowN.upd H1.out Hu.out (fun _ _ e => e)).cells (at0_get hlt)
      injection hv2 with e1 _ e2
      subst e1 e2
      obtain ⟨x, hx⟩ : ∃ x, x = at0 l' k := ⟨_, rfl⟩
      rw [← hx] at c0 c1 c2
      have hkI : (k : Int) < (l'.length : Int) := by omega
      have htk : l'.take (k + 1) = l'.take k ++ [x] := by
        rw [List.take_succ_eq_append_getElem hlt, hx]
        congr 2
        simp [at0, List.getD, hlt]
      have htl : (l'.take k).length = k := by rw [List.length_take]; omega
      have Htk := Lib.hid htk
      have Htl := Lib.hid htl
      clear htk htl hx
      go_wp2_with (at_builtin; refine wpList_append_anyN rfl (.tmp 13) (.tmp 16) 37 rfl 45 i0 (.agg #[.int .i64 0, .int .i64 0]) 2 16 Try.underlying37 hi hz0 hz1 hz2 rfl (by decide) _ rfl r3 (l'.take k).length (cells2 (l'.take k)) (RowN.alloc (RowN.alloc H3.out _) _) ⟨wr.heap.size + 1, 0, none⟩ 1 1 [.int .i64 x.when, .int .i64 x.g] rfl rfl ?c1 (oneCell_two _ _) ?c2 ?c3 ?_)
      case c2 => unfold maxLen; omega
      case c3 => omega
      intro v' row' w2 hrow hg hat
      have Hrow := Lib.hid hrow
      have Hg := Lib.hid hg
      have Hat := Lib.hid hat
      clear hrow hg hat
      go_wp2_with fail
      go_roundw
      case rel =>
        refine ⟨k + 1, by omega, by go_num, ⟨row', ?_, ?_⟩, ((Hu.out.alloc _).alloc _).grown Hg.out (fun j hj => .inr (F3.out j hj))⟩
        · rw [Htk.out, cells2_snoc, List.length_append, Htl.out]
          exact Hrow.out
        · intro j hj
          rcases Hat.out with e | e
          · exact F3.out j (by rw [← e]; exact hj)
          · rw [e] at hj
            injection hj with hj
            have := Hu.out.size
            try simp at hj
            omega
      case measure => simp [intOf]; omega
    · have hk2 : k = l'.length := by omega
      subst hk2
      go_wp2_with fail
      go_ret
      refine ⟨_, l', rfl, P1.out, P2.out, ⟨r3, ?_, fun j hj => ?_⟩, U1.out.trans Hu.out (fun _ e => .inl e)⟩
      · have := H3.out
        rw [List.take_of_length_le (Nat.le_refl _)] at this
        exact this
      · have := F3.out j hj
        have := U1.out.size
        omega
end Go.Proofs.Ytgamaaeippdomaa
