/- Contracts of package timer: New, Len, Next, Add. -/
import Derived.Test.YtndldoamadmphaaTimer6
namespace Go.Proofs.Ytndldoamadmphaa
open Go.RowKit


theorem HAt.drew {w : World} {t : Nat} {row : Option Nat} {v : Value} {l : List Sl} {made : Int} (h : HAt w t row v l made) : HAt w.drew t row v l made := ⟨h.blk, h.row⟩

theorem tnew_c (w : World) : Calls Try.prog 36 #[] w fun e w' => e = .returned (.pointer (some ⟨w.heap.size, 0, none⟩)) ∧ HAt w' w.heap.size none (.slice none 0 0) [] 0 ∧ Upd (fun _ => False) w w' := by
  go_enter Try.func36, Try.ntmps36
  go_wp2
  go_ret
  exact ⟨rfl, ⟨Blk.new _ _ _, RowN.nil _ _ _⟩, (Upd.refl _ _).alloc _⟩
theorem tlen_c {w : World} {t : Nat} {row : Option Nat} {v : Value} {l : List Sl} {made : Int} (h : HAt w t row v l made) :
    Calls Try.prog 47 #[.pointer (some ⟨t, 0, none⟩)] w fun e w' => e = .returned (.int .i64 l.length) ∧ w = w' := by
  have c0 : w.cell? ⟨t, 0, none⟩ = some v := h.blk.cell 0
  rcases h.row.form with ⟨rfl, h0, _⟩ | ⟨g, cap, _, rfl, _⟩
  · rw [h0]
    clear h h0
    go_enter Try.func47, Try.ntmps47
    go_wp2
    go_ret
    exact ⟨rfl, rfl⟩
  · clear h
    go_enter Try.func47, Try.ntmps47
    go_wp2
    go_ret
    exact ⟨rfl, rfl⟩
theorem tlen_nil (w : World) : Calls Try.prog 47 #[.pointer none] w fun e w' => e = .returned (.int .i64 0) ∧ w = w' := by
  go_enter Try.func47, Try.ntmps47
  go_wp2
  go_ret
  exact ⟨rfl, rfl⟩
def nextL (l : List Sl) : Int × Bool :=
  match l with
  | [] => (0, false)
  | s :: _ => (s.when, true)
set_option maxRecDepth 100000 in
set_option maxHeartbeats 2000000 in
theorem tadd_c {w : World} {t : Nat} {row : Option Nat} {v : Value} {l : List Sl} {made : Nat} (h : HAt w t row v l made) (hl : l.length < 900000) (hm : made < 900000) (when g : Int) :
    Calls Try.prog 79 #[.pointer (some ⟨t, 0, none⟩), .int .i64 when, .int .i64 g] w fun e w' => e = .returned (.tuple #[]) ∧
      ∃ row' v', HAt w' t row' v' (pushL l ⟨when, g, ((made : Int) + 1)⟩) ((made : Int) + 1) ∧ Upd (fun k => k = t ∨ row = some k) w w' ∧ (∀ k, row' = some k → row = some k ∨ w.heap.size ≤ k) := by
  have c1 : w.cell? ⟨t, 1, none⟩ = some (.int .i64 made) := h.blk.cell 1
  have f1 := h.blk.frozen 1
  have h1 : HAt (w.setCell ⟨t, 1, none⟩ (.int .i64 ((made : Int) + 1))) t row v l ((made : Int) + 1) :=
    ⟨h.blk.set_ 1 _, RowN.upd h.row ((Upd.refl (fun k => k = t) w).setCell (p := ⟨t, 1, none⟩) (.inl rfl) _) (fun k hk e => h.ne (by rw [hk, e]))⟩
  have H1 := Lib.hid h1
  clear h h1
  go_enter Try.func79, Try.ntmps79
  go_wp2_with fail
  refine wp_still_tail 13 (by kernel_rfl) (by kernel_rfl) ?_
  simp only [List.take_succ_cons, List.take_zero, List.drop_succ_cons, List.drop_zero]
  repeat still_step
  refine wpStill_nil ?_
  go_wp2_with fail
  refine (hPush_c H1.out.drew hl ⟨when, g, (made : Int) + 1⟩).mono ?_
  rintro e w1 ⟨rfl, row', v', h2, u2, hf⟩
  go_wp2_with fail
  go_end0
  refine ⟨rfl, row', v', h2, ?_, ?_⟩
  · exact (((Upd.refl _ _).setCell (S := fun k => k = t ∨ row = some k) (p := ⟨t, 1, none⟩) (.inl (.inl rfl)) _).drew).trans u2 (fun _ h => .inl h)
  · intro k hk
    rcases hf k hk with e | e
    · exact .inl e
    · right; simpa using e

/-- Whose time has come: their goroutines, and who still sleeps. -/
def dueL (now : Int) : Nat → List Sl → List Int × List Sl
  | 0, l => ([], l)
  | n + 1, l =>
    match l with
    | [] => ([], l)
    | s :: _ => if s.when ≤ now then
        match (popL l n).getLast? with
        | none => ([], l)
        | some x => (x.g :: (dueL now n (popL l n).dropLast).1, (dueL now n (popL l n).dropLast).2)
      else ([], l)
theorem dueL_nil (now : Int) (n : Nat) (h : n = 0) : dueL now n [] = ([], []) := by subst h; rfl
theorem dueL_stop (now : Int) (s : Sl) (l : List Sl) (h : ¬ s.when ≤ now) : dueL now (s :: l).length (s :: l) = ([], s :: l) := by
  simp only [List.length_cons]
  unfold dueL
  simp only [if_neg h]
theorem dueL_go (now : Int) (s : Sl) (l l' : List Sl) (x : Sl) (h : s.when ≤ now) (hp : popL (s :: l) l.length = l' ++ [x]) : dueL now (s :: l).length (s :: l) = (x.g :: (dueL now l.length l').1, (dueL now l.length l').2) := by
  simp only [List.length_cons]
  rw [dueL]
  simp only [if_pos h, hp, List.getLast?_concat, List.dropLast_concat]
set_option maxRecDepth 100000 in
set_option maxHeartbeats 4000000 in
theorem tdue_c {w : World} {t : Nat} {row : Option Nat} {v : Value} {l : List Sl} {made : Int} (h : HAt w t row v l made) (hl : l.length < 900000) (now : Int) :
    Calls Try.prog 49 #[.pointer (some ⟨t, 0, none⟩), .int .i64 now] w fun e w' => ∃ o v', e = .returned o ∧ NewRow w w' 3 o (ints (dueL now l.length l).1) ∧
      HAt w' t row v' (dueL now l.length l).2 made ∧ Upd (fun k => k = t ∨ row = some k) w w' := by
  obtain ⟨i0, hi, hz0, hz1, hz2⟩ := info_parts (show Option.map (fun i => (i.zero, i.size, i.bytes)) (Try.prog.info? 3) = some (some (.int .i64 0), 1, 8) from by kernel_rfl)
  have hne := h.ne
  have hrlt : ∀ k, row = some k → k < w.heap.size := fun k hk => RowN.lt h.row k hk
  have htlt := h.blk.lt
  have H := Lib.hid h
  have Hl := Lib.hid hl
  have Hne := Lib.hid hne
  have Hrlt := Lib.hid hrlt
  clear h hl hne hrlt
  go_enter Try.func49, Try.ntmps49
  go_wp2_with fail
  go_loopw [5] (fun o wr => ∃ (v' : Value) (l' : List Sl) (xs : List Int), NewRow w wr 3 o (ints xs) ∧ HAt wr t row v' l' made ∧ l'.length ≤ l.length ∧ xs.length + l'.length ≤ l.length ∧ xs ++ (dueL now l'.length l').1 = (dueL now l.length l).1 ∧ (dueL now l'.length l').2 = (dueL now l.length l).2 ∧ Upd (fun k => k = t ∨ row = some k) w wr) (fun _ wr => match wr.cell? ⟨t, 0, none⟩ with | some (.slice _ n _) => n | _ => 0)
  case atStart => exact ⟨v, l, [], ⟨none, Row.nil _ _, by simp⟩, H.out, Nat.le_refl _, by simp, rfl, rfl, Upd.refl _ _⟩
  case round =>
    obtain ⟨v', l', xs, ⟨r, hrow, hfresh⟩, hh, hle, hsum, hd1, hd2, hu⟩ := hrel
    have Hrow := Lib.hid hrow
    have Hfresh := Lib.hid hfresh
    have Hh := Lib.hid hh
    have Hd1 := Lib.hid hd1
    have Hd2 := Lib.hid hd2
    have c0 : wr.cell? ⟨t, 0, none⟩ = some v' := hh.blk.cell 0
    have Hlen := Lib.hid (tlen_c hh)
    clear hrow hfresh hd1 hd2
    cases l' with
    | nil =>
      clear hh
      go_wp2_with (refine Hlen.out.mono ?_; rintro e w1 ⟨rfl, rfl⟩)
      go_ret
      refine ⟨_, v', rfl, ⟨r, ?_, Hfresh.out⟩, ?_, hu⟩
      · rw [← Hd1.out]; simpa [dueL] using Hrow.out
      · rw [← Hd2.out]; exact Hh.out
    | cons s l' =>
      obtain ⟨g, cap, rfl, rfl, a0, a1, a2, _, _⟩ := hh.row.cells (i := 0) (s := s) rfl
      simp only [Nat.zero_mul, Nat.zero_add] at a0 a1 a2
      clear hh
      by_cases hw : s.when ≤ now
      · obtain ⟨l2, x, hx⟩ : ∃ l2 x, popL (s :: l') l'.length = l2 ++ [x] := by
          have h1 := popL_len (s :: l') l'.length
          rcases List.eq_nil_or_concat (popL (s :: l') l'.length) with e | ⟨l2, x, e⟩
          · rw [e] at h1; simp at h1
          · exact ⟨l2, x, by rw [e]; simp⟩
        have Hx := Lib.hid hx
        have Hw := Lib.hid hw
        clear hx
        have Hpop := Lib.hid (hPop_c (n := l'.length) Hh.out (by simp) (by have := Hl.out; simp at hle; omega) Hx.out)
        unfold Sl.v at Hpop
        have hta : ∀ W, Sem.run Try.prog (Instr.typeAssert (.iface 106 (.agg #[.int .i64 x.when, .int .i64 x.g, .int .i64 x.seq])) 20 106 false) W = .ok (.agg #[.int .i64 x.when, .int .i64 x.g, .int .i64 x.seq]) W := fun _ => by kernel_rfl
        have hfl : ∀ W, Sem.run Try.prog (Instr.field 106 (.agg #[.int .i64 x.when, .int .i64 x.g, .int .i64 x.seq]) 0) W = .ok (.agg #[.int .i64 x.when, .int .i64 x.g]) W := fun _ => by kernel_rfl
        have hfl2 : ∀ W, Sem.run Try.prog (Instr.field 104 (.agg #[.int .i64 x.when, .int .i64 x.g]) 1) W = .ok (.int .i64 x.g) W := fun _ => by kernel_rfl
        have hrt : ∀ k, r = some k → ¬ (k = t ∨ k = g) := by
          intro k hk e
          have e1 := Hfresh.out k hk
          have e2 := Hrlt.out g rfl
          omega
        have Hrt := Lib.hid hrt
        have hil : (ints xs).length = xs.length := by simp [ints]
        have Hil := Lib.hid hil
        clear hrt hil
        go_wp2_with (first
          | (refine Hlen.out.mono ?_; rintro e w1 ⟨rfl, rfl⟩)
          | (refine Hpop.out.mono ?_; rintro e w1 ⟨rfl, h1, u1⟩
             have Hh1 := Lib.hid h1
             have Hrow1 := Lib.hid (Hrow.out.upd u1 Hrt.out)
             clear h1)
          | (at_builtin; refine wpList_append_rowN rfl (.tmp 21) (.tmp 30) 44 rfl 3 i0 (.int .i64 0) 1 8 Try.underlying44 hi hz0 hz1 hz2 rfl (by decide) _ rfl r (ints xs).length (ints xs) (Hrow1.out.alloc _).toN ⟨w1.heap.size, 0, none⟩ 1 1 [.int .i64 x.g] rfl rfl (news_one _ _ _) (oneCell_one rfl) (by omega) ?c3 ?c4 ?_))
        case c3 => rw [Hil.out]; have := Hl.out; unfold maxLen; omega
        case c4 => rw [Hil.out]; have := Hl.out; omega
        intro g2 cap2 w2 hrow2 hg2 hat2 hlt2
        have hu2 : Upd (fun k => r = some k) w1 w2 := ((Upd.refl _ _).alloc _).grown hg2 (fun k hk => .inl hk)
        have hh2 := Hh1.out.upd hu2 (fun e => Hrt.out t e (.inl rfl)) (fun k hk e => Hrt.out k e (.inr (by injection hk with hk; exact hk.symm)))
        have Hh2 := Lib.hid hh2
        have Hu2 := Lib.hid hu2
        clear hh2 hu2
        go_wp2
        go_roundw
        case rel =>
          have hl2 : l2.length = l'.length := by
            have h1 := popL_len (s :: l') l'.length
            rw [Hx.out] at h1
            simpa using h1
          have e := dueL_go now s l' l2 x Hw.out Hx.out
          rw [← hl2] at e
          refine ⟨_, l2, xs ++ [x.g], ⟨some g2, ?_, ?_⟩, Hh2.out, ?_, ?_, ?_, ?_, ?_⟩
          · have := hrow2.to1
            simpa [ints] using this
          · intro k hk
            injection hk with hk
            rcases hat2 with e | e
            · exact Hfresh.out k (by rw [e, hk])
            · have h1 := hu.size
              have h2 := u1.size
              try simp at e
              omega
          · simp at hle; omega
          · simp at hsum ⊢; omega
          · rw [← Hd1.out, hl2, dueL_go now s l' l2 x Hw.out Hx.out]; simp
          · rw [← Hd2.out, hl2, dueL_go now s l' l2 x Hw.out Hx.out]
          · refine (hu.trans u1 (fun k hk => ?_)).trans Hu2.out (fun k hk => .inr (Hfresh.out k hk))
            rcases hk with hk | hk
            · exact .inl (.inl hk)
            · exact .inl (.inr (by rw [hk]))
        case measure =>
          have e1 : w2.cell? ⟨t, 0, none⟩ = some _ := Hh2.out.blk.cell 0
          rw [c0, e1]
          simp
      · go_wp2_with (refine Hlen.out.mono ?_; rintro e w1 ⟨rfl, rfl⟩)
        go_ret
        have e := dueL_stop now s l' (by omega)
        refine ⟨_, .slice (some ⟨g, 0, none⟩) (s :: l').length cap, rfl, ⟨r, ?_, Hfresh.out⟩, ?_, hu⟩
        · rw [← Hd1.out, e]; simpa using Hrow.out
        · rw [← Hd2.out, e]; exact Hh.out
end Go.Proofs.Ytndldoamadmphaa
