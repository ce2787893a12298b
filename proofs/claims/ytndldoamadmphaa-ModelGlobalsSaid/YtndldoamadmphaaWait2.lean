/- Contracts of package wait: Wait, Wake, Len; slices.Clone of integers. -/
import Derived.Test.YtndldoamadmphaaWait
namespace Go.Proofs.Ytndldoamadmphaa
open Go.RowKit

theorem intsV_one (l : List Int) : ∀ u ∈ l.map (Value.int .i64), u.oneCell' = true := by
  intro u hu
  obtain ⟨x, _, rfl⟩ := List.mem_map.1 hu
  rfl
/-- A list of integers that is new since w. -/
def NewInts (w w' : World) (v : Value) (l : List Int) : Prop := ∃ row, Row w' 3 row v (l.map (Value.int .i64)) ∧ ∀ k, row = some k → w.heap.size ≤ k
set_option maxRecDepth 100000 in
set_option maxHeartbeats 1000000 in
theorem cloneI_c {w : World} {A : Option Addr} {cap : Nat} {l : List Int} (h : RdF w A l.length 1 (fun i _ => l.getD i 0)) (hl : l.length < 1000000) (hn : A = none → cap = 0) :
    Calls Try.prog 44 #[.slice A l.length cap] w fun e w' => ∃ v, e = .returned v ∧ NewInts w w' v l ∧ Upd (fun _ => False) w w' := by
  obtain ⟨i0, hi, hz0, hz1, hz2⟩ := info_parts (show Option.map (fun i => (i.zero, i.size, i.bytes)) (Try.prog.info? 3) = some (some (.int .i64 0), 1, 8) from by kernel_rfl)
  have hq := fun (w : World) => Lib.run_eql_slice_nil (P := Try.prog) w 44 3 A l.length cap 0 0 Try.underlying44
  cases A with
  | none =>
    have h0 : l = [] := by
      cases l with
      | nil => rfl
      | cons x l =>
        obtain ⟨b, off, h1, _⟩ := h.2 (by simp)
        cases h1
    subst h0
    have hc := hn rfl
    subst hc
    clear h hl hn hq
    have hq := fun (w : World) => Lib.run_eql_slice_nil (P := Try.prog) w 44 3 none 0 0 0 0 Try.underlying44
    change Calls Try.prog 44 #[.slice none 0 0] w _
    go_enter Try.func44, Try.ntmps44
    go_wp2_with fail
    go_ret
    exact ⟨_, rfl, ⟨none, Row.nil _ _, fun k hk => by cases hk⟩, Upd.refl _ _⟩
  | some ad =>
    have hnews : ∀ j u, (l.map (Value.int .i64))[j]? = some u → (w.alloc (.cells #[] 3)).cell? (ad.add j) = some u := by
      intro j u hj
      have hjl : j < l.length := by
        have := (List.getElem?_eq_some_iff.1 hj).1
        simpa using this
      obtain ⟨b, off, h1, hb, hc⟩ := h.2 (by omega)
      injection h1 with h1
      subst h1
      have := hc j hjl 0 (by omega)
      rw [Nat.mul_one, Nat.add_zero] at this
      have e : u = .int .i64 (l.getD j 0) := by
        rw [List.getElem?_map, List.getElem?_eq_getElem hjl] at hj
        simp at hj
        rw [← hj]
        simp [List.getD, hjl]
      rw [e]
      have hb2 : (w.alloc (.cells #[] 3)).cell? ⟨b, off + j, none⟩ = w.cell? ⟨b, off + j, none⟩ := World.cell?_of_block (Below.heap_alloc w _ b hb)
      unfold Addr.add
      by_cases j0 : j = 0
      · subst j0
        simp only [if_true]
        rw [Nat.add_zero] at hb2 this
        rw [hb2, this]
      · rw [if_neg j0]
        rw [hb2, this]
    have Hnews := Lib.hid hnews
    clear h hn hnews
    go_enter Try.func44, Try.ntmps44
    go_wp2_with (at_builtin; refine wpList_append_anyN rfl (.tmp 5) (.tmp 6) 44 rfl 3 i0 (.int .i64 0) 1 8 Try.underlying44 hi hz0 hz1 hz2 rfl (by decide) _ rfl (some w.heap.size) 0 [] (RowN.empty _ _ _) ad l.length cap (l.map (Value.int .i64)) rfl (by simp) Hnews.out (intsV_one l) (by unfold maxLen; omega) (by omega) ?_)
    intro v' row' w1 hrow1 hg1 hat1
    have Hrow1 := Lib.hid hrow1
    have Hg1 := Lib.hid hg1
    have Hat1 := Lib.hid hat1
    clear hrow1 hg1 hat1
    go_wp2_with fail
    go_ret
    refine ⟨v', rfl, ⟨row', RowN.to1 Hrow1.out, fun k hk => ?_⟩, ((Upd.refl _ _).alloc _).grown Hg1.out (fun k hk => .inr (by injection hk with hk; omega))⟩
    rcases Hat1.out with e | e
    · rw [e] at hk; injection hk with hk; omega
    · rw [e] at hk; injection hk with hk; try simp at hk
      omega

/-- What Wait does. -/
def waitOK (L : Nat → List Int) (a g : Int) : Bool := placeB a && !someWaits L g
def waitRes (L : Nat → List Int) (a g : Int) : Int := if placeB a = true then (if someWaits L g = true then 5 else 0) else 2
def waitL (L : Nat → List Int) (a g : Int) : Nat → List Int := if waitOK L a g = true then upN L a.toNat (L a.toNat ++ [g]) else L
theorem WtAt.cell {w : World} {a : Nat} {vs : Nat → Value} {rs : Nat → Option Nat} {L : Nat → List Int} (h : WtAt w a vs rs L) {i : Nat} (hi : i < 32) : w.cell? ⟨a, i, none⟩ = some (vs i) := (h.blk.cell i).trans (arr32_get vs hi)

theorem wait_cells {w w1 : World} {a : Nat} {vs : Nat → Value} {rs : Nat → Option Nat} {L : Nat → List Int} (h : WtAt w a vs rs L) {i : Nat} (hi : i < 32) {o : Obj} (hg : (w.alloc o).drew.grownBy w1 (rs i)) :
    w1.cell? ⟨a, i, none⟩ = some (vs i) ∧ w1.frozen? ⟨a, i, none⟩ = false := by
  have hb1 : Blk w1 a 100 _ := (h.blk.alloc o).drew.grown hg (fun e => h.ne i hi e.symm)
  exact ⟨(hb1.cell i).trans (arr32_get vs hi), hb1.frozen i⟩
theorem wait_fin {w w1 : World} {a : Nat} {vs : Nat → Value} {rs : Nat → Option Nat} {L : Nat → List Int} (h : WtAt w a vs rs L) {i : Nat} (hi : i < 32) {o : Obj} {x : Int} {g cap m : Nat} (hm : ((L i).map (Value.int .i64)).length = m)
    (hrow : RowN w1 3 1 (some g) (.slice (some ⟨g, 0, none⟩) (((L i).map (Value.int .i64)).length + 1) cap) (((L i).map (Value.int .i64)).length + 1) ((L i).map (Value.int .i64) ++ [.int .i64 x]))
    (hg : (w.alloc o).drew.grownBy w1 (rs i)) (hat : rs i = some g ∨ g = (w.alloc o).drew.heap.size) :
    ∃ vs' rs', WtAt (w1.setCell ⟨a, i, none⟩ (.slice (some ⟨g, 0, none⟩) (m + 1) cap)) a vs' rs' (upN L i (L i ++ [x])) ∧
      Upd (ownW a rs) w (w1.setCell ⟨a, i, none⟩ (.slice (some ⟨g, 0, none⟩) (m + 1) cap)) ∧ (∀ k, ownW a rs' k → ownW a rs k ∨ w.heap.size ≤ k) := by
  rw [hm] at hrow
  have hal := h.blk.lt
  have hb1 : Blk w1 a 100 _ := (h.blk.alloc o).drew.grown hg (fun e => h.ne i hi e.symm)
  have hat' : rs i = some g ∨ w.heap.size ≤ g := by
    rcases hat with e | e
    · exact .inl e
    · right; rw [e]; simp
  have hga : g ≠ a := by
    rcases hat' with e | e
    · intro e2; exact h.ne i hi (by rw [e, e2])
    · omega
  have hu : Upd (ownW a rs) w w1 := ((Upd.refl _ _).alloc o).drew.grown hg (fun k hk => .inl (.inr ⟨i, hi, hk⟩))
  have hset : Upd (fun k => k = a) w1 (w1.setCell ⟨a, i, none⟩ (.slice (some ⟨g, 0, none⟩) (m + 1) cap)) := (Upd.refl (fun k => k = a) w1).setCell (p := ⟨a, i, none⟩) (.inl rfl) _
  refine ⟨upN vs i (.slice (some ⟨g, 0, none⟩) (m + 1) cap), upN rs i (some g), ⟨?_, ?_, ?_, ?_⟩, hu.trans hset (fun k e => .inl (.inl e)), ?_⟩
  · rw [← arr32_set]
    exact hb1.set_ i _
  · intro j hj
    by_cases e : j = i
    · subst e
      rw [upN_same, upN_same, upN_same, List.map_append]
      refine Row.upd (S := fun k => k = a) ?_ hset (fun k hk e => hga (by injection hk with hk; omega))
      have h2 := hrow.to1
      exact h2
    · rw [upN_other _ _ e, upN_other _ _ e, upN_other _ _ e]
      have hj2 : ∀ k, rs j = some k → rs i ≠ some k := fun k hk => h.dis j i hj hi e k hk
      have h1 := (h.row j hj).upd (S := fun k => rs i = some k) (((Upd.refl _ _).alloc o).drew.grown hg (fun k hk => .inl hk)) (fun k hk e2 => hj2 k hk e2)
      exact h1.upd hset (fun k hk e2 => h.ne j hj (by rw [hk, e2]))
  · intro j hj
    by_cases e : j = i
    · subst e
      rw [upN_same]
      intro e2
      injection e2 with e2
      exact hga e2
    · rw [upN_other _ _ e]
      exact h.ne j hj
  · intro j j' hj hj' hne k hk
    have lt1 : ∀ q, q < 32 → ∀ k, rs q = some k → k < w.heap.size := fun q hq => (h.row q hq).lt
    by_cases e : j = i
    · subst e
      rw [upN_same] at hk
      injection hk with hk
      subst hk
      rw [upN_other _ _ (fun e => hne e.symm)]
      intro e2
      rcases hat' with e3 | e3
      · exact h.dis j j' hj hj' hne g e3 e2
      · have := lt1 j' hj' g e2; omega
    · rw [upN_other _ _ e] at hk
      by_cases e' : j' = i
      · subst e'
        rw [upN_same]
        intro e2
        injection e2 with e2
        subst e2
        rcases hat' with e3 | e3
        · exact h.dis j j' hj hj' hne g hk e3
        · have := lt1 j hj g hk; omega
      · rw [upN_other _ _ e']
        exact h.dis j j' hj hj' hne k hk
  · rintro k (rfl | ⟨j, hj, hk⟩)
    · exact .inl (.inl rfl)
    · by_cases e : j = i
      · subst e
        rw [upN_same] at hk
        injection hk with hk
        subst hk
        rcases hat' with e3 | e3
        · exact .inl (.inr ⟨j, hj, e3⟩)
        · exact .inr e3
      · rw [upN_other _ _ e] at hk
        exact .inl (.inr ⟨j, hj, hk⟩)

set_option maxRecDepth 100000 in
set_option maxHeartbeats 2000000 in
theorem wait_c {w : World} {a : Nat} {vs : Nat → Value} {rs : Nat → Option Nat} {L : Nat → List Int} (h : WtAt w a vs rs L) (hl : ∀ i, i < 32 → (L i).length < 900000) (at' g : Int) :
    Calls Try.prog 80 #[.pointer (some ⟨a, 0, none⟩), .int .i64 at', .int .i64 g] w fun e w' => e = .returned (.int .i64 (waitRes L at' g)) ∧
      ∃ vs' rs', WtAt w' a vs' rs' (waitL L at' g) ∧ Upd (ownW a rs) w w' ∧ (∀ k, ownW a rs' k → ownW a rs k ∨ w.heap.size ≤ k) := by
  cases hp : placeB at' with
  | false =>
    have e1 : waitRes L at' g = 2 := by simp [waitRes, hp]
    have e2 : waitL L at' g = L := by simp [waitL, waitOK, hp]
    have hpc := place_c at' w
    rw [hp] at hpc
    rw [e1, e2]
    have H := Lib.hid h
    have Hpc := Lib.hid hpc
    clear h hpc e1 e2 hp hl
    go_enter Try.func80, Try.ntmps80
    go_wp2_with (refine Hpc.out.mono ?_; rintro e w1 ⟨rfl, rfl⟩)
    go_ret
    exact ⟨rfl, vs, rs, H.out, Upd.refl _ _, fun k hk => .inl hk⟩
  | true =>
    have hpc := place_c at' w
    rw [hp] at hpc
    have Hpc := Lib.hid hpc
    have Hf := Lib.hid (find_c h g)
    have H := Lib.hid h
    cases hs : someWaits L g with
    | true =>
      have e1 : waitRes L at' g = 5 := by simp [waitRes, hp, hs]
      have e2 : waitL L at' g = L := by simp [waitL, waitOK, hs]
      rw [e1, e2]
      have Hs := Lib.hid hs
      clear h hpc e1 e2 hp hs hl
      go_enter Try.func80, Try.ntmps80
      go_wp2_with (first
        | (refine Hpc.out.mono ?_; rintro e w1 ⟨rfl, rfl⟩)
        | (refine Hf.out.mono ?_; rintro e w1 ⟨⟨i, rfl, hi⟩, rfl⟩; rw [Hs.out] at hi))
      go_ret
      exact ⟨rfl, vs, rs, H.out, Upd.refl _ _, fun k hk => .inl hk⟩
    | false =>
      obtain ⟨i, rfl⟩ : ∃ i : Nat, at' = i := by
        simp [placeB] at hp
        exact ⟨at'.toNat, by omega⟩
      have hi32 : i < 32 := by
        simp [placeB] at hp
        omega
      have e1 : waitRes L i g = 0 := by simp [waitRes, hp, hs]
      have e2 : waitL L i g = upN L i (L i ++ [g]) := by simp [waitL, waitOK, hp, hs]
      rw [e1, e2]
      have Hs := Lib.hid hs
      obtain ⟨i0, hi, hz0, hz1, hz2⟩ := info_parts (show Option.map (fun i => (i.zero, i.size, i.bytes)) (Try.prog.info? 3) = some (some (.int .i64 0), 1, 8) from by kernel_rfl)
      have c0 := h.cell hi32
      have f0 := h.blk.frozen i
      have hal := h.blk.lt
      have hiI : (i : Int) < 32 := by omega
      have hli := hl i hi32
      have Hrow := Lib.hid (h.row i hi32)
      have hil : ((L i).map (Value.int .i64)).length = (L i).length := by simp
      have Hil := Lib.hid hil
      clear h hpc e1 e2 hp hs hl hil
      go_enter Try.func80, Try.ntmps80
      go_wp2_with (first
        | (refine Hpc.out.mono ?_; rintro e w1 ⟨rfl, rfl⟩)
        | (refine Hf.out.mono ?_; rintro e w1 ⟨⟨j, rfl, hj⟩, rfl⟩; rw [Hs.out] at hj))
      go_region_law (refine step_append_rowN rfl (.tmp 26) (.tmp 28) 44 rfl 3 i0 (.int .i64 0) 1 8 Try.underlying44 hi hz0 hz1 hz2 rfl (by decide) (vs i) rfl (rs i) ((L i).map (Value.int .i64)).length ((L i).map (Value.int .i64)) (Row.toN (Hrow.out.alloc _)) ⟨w.heap.size, 0, none⟩ 1 1 [.int .i64 g] rfl rfl (news_one _ _ _) (oneCell_one rfl) (by omega) (by rw [Hil.out]; unfold maxLen; omega) (by rw [Hil.out]; omega) ?_; intro g2 cap2 w1 hrow1 hg1 hat1 hlt1; obtain ⟨c1, f1⟩ := wait_cells H.out hi32 hg1)
      all_goals
        go_wp2_with fail
        go_ret
        exact ⟨rfl, wait_fin H.out hi32 Hil.out hrow1 hg1 hat1⟩
end Go.Proofs.Ytndldoamadmphaa
