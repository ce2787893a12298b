/- Which objects can be reached: the plain law of the search. No program in sight. model.Reach. -/
import Derived.Test.YtndldoamadmphaaGet1
import Derived.Deep.LoopGhost
import Derived.Laws.AppendOwnNone
namespace Go.Proofs.Ytndldoamadmphaa
def stackOf (M : Mo) (g : Int) : List Int := (List.range 16).map (gorAt M g.toNat).stack
def rootsL (M : Mo) : List Int := M.gl ++ (alive M.st).flatMap (stackOf M)
/-- What can be reached. -/
inductive Rch (M : Mo) : Int → Prop
  | root (v : Int) : v ∈ rootsL M → v ≠ 0 → Rch M v
  | slot (u v : Int) : Rch M u → v ∈ M.sl.getD u.toNat [] → v ≠ 0 → Rch M v
open Classical in
noncomputable def reachL (M : Mo) : List Int := ((List.range M.sl.length).filter (fun k : Nat => decide (Rch M k))).map (fun k : Nat => (k : Int))
theorem mem_reachL {M : Mo} {v : Int} : v ∈ reachL M ↔ ∃ k : Nat, v = k ∧ k < M.sl.length ∧ Rch M k := by
  unfold reachL
  simp only [List.mem_map, List.mem_filter, List.mem_range, decide_eq_true_eq]
  constructor
  · rintro ⟨k, ⟨h1, h2⟩, rfl⟩
    exact ⟨k, rfl, h1, h2⟩
  · rintro ⟨k, rfl, h1, h2⟩
    exact ⟨k, ⟨h1, h2⟩, rfl⟩
open Classical in
theorem reachL_of {M : Mo} {seen : List Bool} (h : ∀ k : Nat, k < M.sl.length → (seen.getD k false = true ↔ Rch M k)) :
    ((List.range M.sl.length).filter (fun k : Nat => seen.getD k false)).map (fun k : Nat => (k : Int)) = reachL M := by
  unfold reachL
  congr 1
  apply List.filter_congr
  intro k hk
  rw [List.mem_range] at hk
  rw [Bool.eq_iff_iff, h k hk, decide_eq_true_iff]
/-- The search, under way. -/
structure Srch (M : Mo) (td : List Int) (seen : List Bool) : Prop where
  len : seen.length = M.sl.length
  todo : ∀ v ∈ td, (0 ≤ v ∧ v < M.sl.length) ∧ (v ≠ 0 → Rch M v)
  sound : ∀ k : Nat, seen.getD k false = true → Rch M k
  root : ∀ v ∈ rootsL M, v = 0 ∨ seen.getD v.toNat false = true ∨ v ∈ td
  slot : ∀ k : Nat, seen.getD k false = true → ∀ v ∈ M.sl.getD k [], v = 0 ∨ seen.getD v.toNat false = true ∨ v ∈ td
def unseen (seen : List Bool) : Nat := seen.countP (fun b => !b)
variable {M : Mo} {n : Nat}
theorem root_bd (ok : Good M n) {v : Int} (h : v ∈ rootsL M) : 0 ≤ v ∧ v < M.sl.length := by
  unfold rootsL at h
  rcases List.mem_append.1 h with h | h
  · exact ok.gl v h
  · obtain ⟨g, hg, hv⟩ := List.mem_flatMap.1 h
    unfold stackOf at hv
    obtain ⟨k, hk, rfl⟩ := List.mem_map.1 hv
    by_cases h1 : g.toNat < M.gs.length
    · exact (ok.at_ h1).stack k
    · have : gorAt M g.toNat = ⟨0, 0, 0, fun _ => 0⟩ := by simp [gorAt, List.getD, List.getElem?_eq_none (by omega : M.gs.length ≤ g.toNat)]
      rw [this]
      have := ok.pos
      exact ⟨Int.le_refl 0, show (0 : Int) < M.sl.length by omega⟩
theorem slot_bd (ok : Good M n) {k : Nat} {v : Int} (h : v ∈ M.sl.getD k []) : 0 ≤ v ∧ v < M.sl.length := by
  rw [List.getD] at h
  cases e : M.sl[k]? with
  | none => rw [e] at h; simp at h
  | some l => rw [e] at h; exact (ok.sl l (List.mem_of_getElem? e)).2 v h
theorem rch_bd (ok : Good M n) {v : Int} (h : Rch M v) : 0 ≤ v ∧ v < M.sl.length := by
  cases h with
  | root v hv _ => exact root_bd ok hv
  | slot u v _ hv _ => exact slot_bd ok hv
theorem Srch.start (ok : Good M n) : Srch M (rootsL M) (List.replicate M.sl.length false) := by
  have hf : ∀ k, (List.replicate M.sl.length false).getD k false = false := by
    intro k
    rw [List.getD, List.getElem?_replicate]
    split <;> rfl
  refine ⟨by simp, fun v hv => ⟨root_bd ok hv, fun h0 => .root v hv h0⟩, fun k hk => ?_, fun v hv => .inr (.inr hv), fun k hk => ?_⟩
  · rw [hf] at hk; cases hk
  · rw [hf] at hk; cases hk
theorem Srch.skip {t : List Int} {x : Int} {seen : List Bool} (h : Srch M (t ++ [x]) seen) (hx : x = 0 ∨ seen.getD x.toNat false = true) : Srch M t seen := by
  refine ⟨h.len, fun v hv => h.todo v (List.mem_append_left _ hv), h.sound, fun v hv => ?_, fun k hk v hv => ?_⟩
  · rcases h.root v hv with e | e | e
    · exact .inl e
    · exact .inr (.inl e)
    · rcases List.mem_append.1 e with e | e
      · exact .inr (.inr e)
      · rw [List.mem_singleton] at e
        subst e
        rcases hx with hx | hx
        · exact .inl hx
        · exact .inr (.inl hx)
  · rcases h.slot k hk v hv with e | e | e
    · exact .inl e
    · exact .inr (.inl e)
    · rcases List.mem_append.1 e with e | e
      · exact .inr (.inr e)
      · rw [List.mem_singleton] at e
        subst e
        rcases hx with hx | hx
        · exact .inl hx
        · exact .inr (.inl hx)
theorem getD_set (l : List Bool) (i k : Nat) (hi : i < l.length) : (l.set i true).getD k false = if k = i then true else l.getD k false := by
  rw [List.getD, List.getElem?_set]
  by_cases e : i = k
  · subst e
    rw [if_pos rfl, if_pos hi, if_pos rfl]
    rfl
  · rw [if_neg e, if_neg (fun c => e c.symm)]
    rfl
theorem Srch.mark (ok : Good M n) {t : List Int} {x : Int} {seen : List Bool} (h : Srch M (t ++ [x]) seen) (hx : x ≠ 0) : Srch M (t ++ M.sl.getD x.toNat []) (seen.set x.toNat true) := by
  obtain ⟨⟨b0, b1⟩, hr⟩ := h.todo x (by simp)
  have hrx := hr hx
  have hlt : x.toNat < seen.length := by rw [h.len]; omega
  refine ⟨by simpa using h.len, fun v hv => ?_, fun k hk => ?_, fun v hv => ?_, fun k hk v hv => ?_⟩
  · rcases List.mem_append.1 hv with hv | hv
    · exact h.todo v (List.mem_append_left _ hv)
    · exact ⟨slot_bd ok hv, fun h0 => .slot x v hrx hv h0⟩
  · rw [getD_set _ _ _ hlt] at hk
    by_cases e : k = x.toNat
    · rw [e, show ((x.toNat : Nat) : Int) = x by omega]
      exact hrx
    · rw [if_neg e] at hk
      exact h.sound k hk
  · rw [getD_set _ _ _ hlt]
    rcases h.root v hv with e | e | e
    · exact .inl e
    · refine .inr (.inl ?_)
      split
      · rfl
      · exact e
    · rcases List.mem_append.1 e with e | e
      · exact .inr (.inr (List.mem_append_left _ e))
      · rw [List.mem_singleton] at e
        subst e
        rw [if_pos rfl]
        exact .inr (.inl rfl)
  · rw [getD_set _ _ _ hlt]
    rw [getD_set _ _ _ hlt] at hk
    by_cases ek : k = x.toNat
    · rw [ek] at hv
      exact .inr (.inr (List.mem_append_right _ hv))
    · rw [if_neg ek] at hk
      rcases h.slot k hk v hv with e | e | e
      · exact .inl e
      · refine .inr (.inl ?_)
        split
        · rfl
        · exact e
      · rcases List.mem_append.1 e with e | e
        · exact .inr (.inr (List.mem_append_left _ e))
        · rw [List.mem_singleton] at e
          subst e
          rw [if_pos rfl]
          exact .inr (.inl rfl)
theorem Srch.done {seen : List Bool} (h : Srch M [] seen) (k : Nat) : seen.getD k false = true ↔ Rch M k := by
  refine ⟨h.sound k, fun hr => ?_⟩
  have key : ∀ v, Rch M v → seen.getD v.toNat false = true := by
    intro v hv
    induction hv with
    | root v hv h0 =>
      rcases h.root v hv with e | e | e
      · exact absurd e h0
      · exact e
      · cases e
    | slot u v hu hv h0 ih =>
      rcases h.slot u.toNat ih v hv with e | e | e
      · exact absurd e h0
      · exact e
      · cases e
  have := key k hr
  rwa [Int.toNat_natCast] at this
theorem unseen_mark {seen : List Bool} {k : Nat} (hk : k < seen.length) (h : seen.getD k false = false) : unseen (seen.set k true) + 1 = unseen seen := by
  have h1 : seen[k] = false := by rw [List.getD, List.getElem?_eq_getElem hk] at h; exact h
  unfold unseen
  rw [List.countP_set hk]
  simp [h1]
  have : 0 < seen.countP (fun b => !b) := List.countP_pos_iff.2 ⟨seen[k], List.getElem_mem hk, by simp [h1]⟩
  omega
end Go.Proofs.Ytndldoamadmphaa
namespace Go.Proofs.Ytndldoamadmphaa
open Go.RowKit
def seenTo (seen : List Bool) (k : Nat) : List Int := ((List.range k).filter (fun k : Nat => seen.getD k false)).map (fun k : Nat => (k : Int))
theorem seenTo_yes {seen : List Bool} {k : Nat} (h : seen.getD k false = true) : seenTo seen (k + 1) = seenTo seen k ++ [(k : Int)] := by
  unfold seenTo
  rw [List.range_succ, List.filter_append, List.map_append]
  congr 1
  simp only [List.filter_cons, h, if_true, List.filter_nil, List.map_cons, List.map_nil]
theorem seenTo_no {seen : List Bool} {k : Nat} (h : seen.getD k false = false) : seenTo seen (k + 1) = seenTo seen k := by
  unfold seenTo
  rw [List.range_succ, List.filter_append, List.map_append]
  simp only [List.filter_cons, h, List.filter_nil]
  simp
theorem seenTo_len (seen : List Bool) (k : Nat) : (seenTo seen k).length ≤ k := by
  unfold seenTo
  rw [List.length_map]
  exact Nat.le_trans (List.length_filter_le _ _) (by simp)
def bools (l : List Bool) : List Value := l.map Value.bool
/-- What is to be looked at, in memory: a list that is new since w. -/
def TodoAt (w wr : World) (row : Option Nat) (v : Value) (l : List Int) : Prop := Row wr 3 row v (ints l) ∧ (∀ k, row = some k → w.heap.size ≤ k) ∧ Upd (fun _ => False) w wr
theorem alive_mem {l : List Int} {g : Int} (h : g ∈ alive l) : ∃ k : Nat, g = k ∧ k < l.length := by
  unfold alive aliveTo at h
  obtain ⟨k, hk, rfl⟩ := List.mem_map.1 h
  exact ⟨k, rfl, by simpa using (List.mem_filter.1 hk).1⟩
theorem alive_len (l : List Int) : (alive l).length ≤ l.length := by
  unfold alive aliveTo
  rw [List.length_map]
  exact Nat.le_trans (List.length_filter_le _ _) (by simp)
theorem stackOf_len (M : Mo) (g : Int) : (stackOf M g).length = 16 := by simp [stackOf]
theorem flat_len (M : Mo) (l : List Int) : (l.flatMap (stackOf M)).length = 16 * l.length := by
  induction l with
  | nil => rfl
  | cons a l ih => rw [List.flatMap_cons, List.length_append, ih, stackOf_len, List.length_cons]; omega
theorem take_flat (M : Mo) (l : List Int) {k : Nat} (hk : k < l.length) : (l.take (k + 1)).flatMap (stackOf M) = (l.take k).flatMap (stackOf M) ++ stackOf M (l.getD k 0) := by
  rw [List.take_succ_eq_append_getElem hk, List.flatMap_append, List.flatMap_cons, List.flatMap_nil, List.append_nil]
  simp [List.getD, hk]
theorem ints_len (l : List Int) : (ints l).length = l.length := by simp [ints]
theorem Row.toI {w : World} {row : Option Nat} {v : Value} {l : List Int} (h : Row w 3 row v (ints l)) : RowN w 3 1 row v l.length (ints l) := by
  have := h.toN
  rwa [ints_len] at this
theorem ints_app (a b : List Int) : ints (a ++ b) = ints a ++ ints b := by simp [ints]
theorem ints_one (l : List Int) : ∀ u ∈ ints l, u.oneCell' = true := by
  intro u hu
  obtain ⟨x, _, rfl⟩ := List.mem_map.1 hu
  rfl
/-- An append to what is to be looked at. -/
theorem TodoAt.grow {w wr w1 : World} {row : Option Nat} {v : Value} {l l2 : List Int} {g cap k : Nat} (h : TodoAt w wr row v l) (hr : RowN w1 3 1 (some g) (.slice (some ⟨g, 0, none⟩) k cap) k (ints l ++ ints l2)) (hg : wr.grownBy w1 row) (hat : row = some g ∨ g = wr.heap.size) :
    TodoAt w w1 (some g) (.slice (some ⟨g, 0, none⟩) k cap) (l ++ l2) := by
  obtain ⟨h1, h2, h3⟩ := h
  refine ⟨?_, fun b hb => ?_, (h3.mono (S' := fun _ => False) (fun _ e => e.elim)).trans ((Upd.refl (fun b => row = some b) wr).grown hg (fun b hb => .inl hb)) (fun b hb => .inr (h2 b hb))⟩
  · have := hr.to1
    rwa [← ints_app] at this
  · injection hb with hb
    subst hb
    rcases hat with e | e
    · exact h2 _ e
    · have := h3.size; omega
theorem TodoAt.grow2 {w wr w1 : World} {row row' : Option Nat} {v v' : Value} {l l2 : List Int} {k : Nat} (h : TodoAt w wr row v l) (hr : RowN w1 3 1 row' v' k (ints l ++ ints l2)) (hg : wr.grownBy w1 row) (hat : row' = row ∨ row' = some wr.heap.size) :
    TodoAt w w1 row' v' (l ++ l2) := by
  obtain ⟨h1, h2, h3⟩ := h
  refine ⟨?_, fun b hb => ?_, (h3.mono (S' := fun _ => False) (fun _ e => e.elim)).trans ((Upd.refl (fun b => row = some b) wr).grown hg (fun b hb => .inl hb)) (fun b hb => .inr (h2 b hb))⟩
  · have := hr.to1
    rwa [← ints_app] at this
  · rcases hat with e | e
    · exact h2 _ (e.symm.trans hb)
    · rw [e] at hb
      injection hb with hb
      have := h3.size; omega
theorem Row.pop {w : World} {e : TypeId} {g cap k : Nat} {xs : List Value} {x : Value} (h : Row w e (some g) (.slice (some ⟨g, 0, none⟩) k cap) (xs ++ [x])) : Row w e (some g) (.slice (some ⟨g, 0, none⟩) xs.length cap) xs := by
  obtain ⟨cap2, cur, hv, hb, h1, h2, h3, h4⟩ := h.block rfl
  injection hv with _ _ hc
  subst hc
  rw [List.length_append, List.length_singleton] at h1 h4
  refine Row.of_block hb (by omega) h2 h3 ?_
  have := congrArg (List.take xs.length) h4
  rw [List.take_take, Nat.min_eq_left (by omega), List.take_left'  rfl] at this
  exact this
theorem bools_at {l : List Bool} {k : Nat} (h : k < l.length) : (bools l).toArray[k]? = some (.bool (l.getD k false)) := by simp [bools, List.getD, h]
theorem bools_set (l : List Bool) (k : Nat) : (bools l).toArray.setIfInBounds k (.bool true) = (bools (l.set k true)).toArray := by
  simp [bools, List.map_set]
/-- The search in memory. -/
def SrchAt (w wr : World) (M : Mo) (sb gk : Nat) (v : Value) : Prop :=
  ∃ row td seen, TodoAt w wr row v td ∧ Srch M td seen ∧ Blk wr sb 4 (bools seen).toArray ∧ row ≠ some sb ∧ 257 * unseen seen + td.length ≤ gk ∧ gk ≤ 1000000000
section
variable {w : World} {c : Col} {m : Nat} {Y : Lay} {M : Mo} {n : Nat}
set_option maxRecDepth 100000 in
set_option maxHeartbeats 4000000 in
theorem reach_c (h : ModelAt w c m Y M) (ok : Good M n) (hn : n < 700000) : Calls Try.prog 19 #[.pointer (some ⟨m, 0, none⟩)] w fun e w' => ∃ v, e = .returned v ∧ NewInts w w' v (reachL M) ∧ Upd (fun _ => False) w w' := by
  obtain ⟨i0, hi, hz0, hz1, hz2⟩ := info_parts (show Option.map (fun i => (i.zero, i.size, i.bytes)) (Try.prog.info? 3) = some (some (.int .i64 0), 1, 8) from by kernel_rfl)
  have c4 := h.c4
  have c2 := h.c2
  have hml := h.blk.lt
  obtain ⟨rowg, hg1, _⟩ := h.gl
  obtain ⟨A, cap, hv, hr, hnn⟩ := hg1.rdI
  have hgl := ok.globs
  have Hc := Lib.hid (cloneI_c hr (by omega) hnn)
  obtain ⟨srow, hst, _⟩ := h.st
  have Hal := fun (w' : World) (hu : Upd (fun _ => False) w w') => alive_c (hst.upd hu (fun _ _ e => e))
  have HAL := Lib.hid Hal
  have hal1 := alive_len M.st
  have hgm : M.st.length ≤ 1024 := by rw [← ok.len]; exact ok.gmax
  rw [hv] at c4
  have H := Lib.hid h
  have OK := Lib.hid ok
  have c2F : ∀ (w' : World), Upd (fun _ => False) w w' → w'.cell? ⟨m, 2, none⟩ = some (.pointer (some ⟨Y.sa, 0, none⟩)) := fun _ hu => (h.blk.upd hu (fun e => e)).cell 2
  have C2F := Lib.hid c2F
  clear h hg1 hv hr hnn hst Hal c2F ok
  go_enter Try.func19, Try.ntmps19
  go_wp2_with fail
  refine Hc.out.mono ?_
  rintro e w1 ⟨v1, rfl, ⟨row1, hr1, hrn1⟩, hu1⟩
  have c21 := C2F.out _ hu1
  have l1 := Nat.lt_of_lt_of_le hml hu1.size
  have HU1 := Lib.hid hu1
  have HR1 := Lib.hid hr1
  have HN1 := Lib.hid hrn1
  clear hu1 hr1 hrn1
  go_wp2_with fail
  refine (HAL.out _ HU1.out).mono ?_
  rintro e w2 ⟨v2, rfl, ⟨row2, hr2, hrn2⟩, hu2⟩
  have hal2 : (ints (alive M.st)).length = (alive M.st).length := by simp [ints]
  obtain ⟨L, hL⟩ : ∃ L, L = alive M.st := ⟨_, rfl⟩
  rw [← hL] at hr2 hal1 hal2
  obtain ⟨A2, cap2, hv2⟩ := hr2.lenI
  have HR2 := Lib.hid hr2
  have HN2 := Lib.hid hrn2
  have HU2 := Lib.hid (HU1.out.trans hu2 (fun _ e => .inl e))
  have HU12 := Lib.hid hu2
  have HL := Lib.hid hL
  have HV2 := Lib.hid hv2
  rw [hv2]
  have hLI : (L.length : Int) ≤ 1024 := by omega
  clear hr2 hrn2 hu2 hL hv2 c2 c4 c21 l1
  go_wp2_with fail
  go_loopw [3, 24] (fun t v wr => ∃ k : Nat, k ≤ L.length ∧ v = .int .i64 k ∧ ∃ row, TodoAt w wr row t (M.gl ++ (L.take k).flatMap (stackOf M)) ∧ Row wr 3 row2 v2 (ints L) ∧ (∀ b, row = some b → row2 ≠ some b)) (fun _ v _ => L.length - (intOf v).toNat)
  case atStart =>
    refine ⟨0, by omega, rfl, row1, ⟨?_, HN1.out, HU2.out⟩, HR2.out, fun b hb hb2 => ?_⟩
    · have := HR1.out.upd HU12.out (fun _ _ e => e)
      simpa [ints] using this
    · have h1 := HR1.out.lt b hb
      have h2 := HN2.out b hb2
      omega
  case round =>
    obtain ⟨k, hk, rfl, row, htd, hr2, hne⟩ := hrel
    have HTD := Lib.hid htd
    have HR2' := Lib.hid hr2
    have HNE := Lib.hid hne
    clear htd hr2 hne
    by_cases hlt : k < L.length
    · have hltI : (k : Int) < (L.length : Int) := by omega
      have hget : (ints L)[k]? = some (.int .i64 (L.getD k 0)) := ints_get hlt
      obtain ⟨gb2, cap3, e2, hrb, hgb2, hgc, _⟩ := HR2'.out.at_ hget
      rw [hal2, HV2.out] at e2
      injection e2 with eA _ eC
      subst eA
      subst eC
      have hmem : L.getD k 0 ∈ alive M.st := by
        rw [← HL.out, List.getD, List.getElem?_eq_getElem hlt]
        exact List.getElem_mem hlt
      obtain ⟨g, hgg, hgl2⟩ := alive_mem hmem
      have hkk := take_flat M L hlt
      rw [hgg] at hgc hkk
      have hgs : g < M.gs.length := by rw [OK.out.len]; exact hgl2
      have hMr := H.out.frame HTD.out.2.2 (fun _ e => e.elim)
      have c3 := hMr.c3
      obtain ⟨gr, gcap, hgv, _, hgrl, hgrc⟩ := hMr.gs.at_ hgs
      rw [hgv] at c3
      have hxb := (hMr.gs.g g _ (gorAt_get hgs)).1
      have hxl := hxb.lt
      have hml2 := hMr.blk.lt
      have hgsI : (g : Int) < (M.gs.length : Int) := by omega
      have hnews : ∀ j u, (ints (stackOf M g))[j]? = some u → wr.cell? ((⟨Y.gp g, 3, none⟩ : Addr).add j) = some u := by
        intro j u hj
        have hj16 : j < 16 := by
          have := (List.getElem?_eq_some_iff.1 hj).1
          rwa [ints_len, stackOf_len] at this
        have hu : u = .int .i64 ((gorAt M g).stack j) := by
          simp [ints, stackOf, hj16] at hj
          exact hj.symm
        have hc := hxb.cell (3 + j)
        rw [gorV_stack _ hj16, ← hu] at hc
        by_cases j0 : j = 0
        · subst j0
          simpa [Addr.add] using hc
        · simpa [Addr.add, j0] using hc
      have HNEW := Lib.hid hnews
      have HKK := Lib.hid hkk
      have HMEM := Lib.hid hmem
      have hlen : (M.gl ++ (L.take k).flatMap (stackOf M)).length ≤ 40000 := by
        rw [List.length_append, flat_len, List.length_take]
        omega
      obtain ⟨N, hN⟩ : ∃ N, N = (M.gl ++ (L.take k).flatMap (stackOf M)).length := ⟨_, rfl⟩
      rw [← hN] at hlen
      have hrow : RowN wr 3 1 row u3 N (ints (M.gl ++ (L.take k).flatMap (stackOf M))) := by rw [hN]; exact HTD.out.1.toI
      have HROW := Lib.hid hrow
      have HNN := Lib.hid hN
      clear hrow hN
      obtain ⟨gq, hgq⟩ : ∃ q, q = Y.gp g := ⟨_, rfl⟩
      rw [← hgq] at hgrc hxl HNEW
      clear hget hmem hkk hMr hgv hxb hnews hgq hgg
      go_wp2_with (at_builtin; refine wpList_append_rowN rfl (.tmp 28) (.tmp 38) 44 rfl 3 i0 (.int .i64 0) 1 8 Try.underlying44 hi hz0 hz1 hz2 rfl (by decide) _ rfl row _ _ HROW.out ⟨gq, 3, none⟩ 16 16 (ints (stackOf M g)) rfl (by rw [ints_len, stackOf_len]) HNEW.out (ints_one _) (by omega) (by unfold maxLen; omega) (by omega) ?_; intro g3 cap4 w3 hrow3 hg3 hat3 hlt3)
      refine ⟨⟨k + 1, by omega, by go_num, some g3, ?_, HR2'.out.upd ((Upd.refl (fun b => row = some b) wr).grown hg3 (fun b hb => .inl hb)) (fun b hb e => HNE.out b e hb), fun b hb e => ?_⟩, by simp [intOf]; omega⟩
      · rw [HKK.out, ← List.append_assoc]
        exact HTD.out.grow hrow3 hg3 hat3
      · injection hb with hb
        subst hb
        rcases hat3 with e3 | e3
        · exact HNE.out _ e3 e
        · rw [hrb] at e
          injection e with e
          omega
    · obtain rfl : k = L.length := by omega
      have hlk : L.take L.length = L := List.take_of_length_le (Nat.le_refl _)
      rw [hlk] at HTD
      have HTD2 : Hid (TodoAt w wr row u3 (rootsL M)) := by
        refine Lib.hid ?_
        unfold rootsL
        rw [← HL.out]
        exact HTD.out
      clear hlk HTD hlt
      have hMr := H.out.frame HTD2.out.2.2 (fun _ e => e.elim)
      have c5 := hMr.c5
      obtain ⟨A5, cap5, hv5⟩ := hMr.sl.len_
      rw [hv5] at c5
      have hml2 := hMr.blk.lt
      have hsll := OK.out.sll
      have hmk := fun w => run_make_row' (P := Try.prog) 25 4 (.bool false) 1 Try.underlying25 (by kernel_rfl) rfl .i64 .i64 M.sl.length (by omega) (by omega) w
      clear hMr hv5
      go_wp2_with fail
      obtain ⟨w4, hw4⟩ : ∃ w4, w4 = wr.alloc (.cells (madeCells #[.bool false] M.sl.length) 4) := ⟨_, rfl⟩
      have hs0 : SrchAt w w4 M wr.heap.size (257 * M.sl.length + (rootsL M).length) u3 := by
        obtain ⟨q1, q2, q3⟩ := HTD2.out
        refine ⟨row, rootsL M, List.replicate M.sl.length false, ⟨?_, q2, ?_⟩, Srch.start OK.out, ?_, fun e => ?_, ?_, ?_⟩
        · rw [hw4]; exact q1.alloc _
        · rw [hw4]; exact q3.alloc _
        · have e : (bools (List.replicate M.sl.length false)).toArray = madeCells #[.bool false] M.sl.length := by
            apply Array.ext'
            apply List.ext_getElem
            · simp [bools, size_madeCells]
            · intro i h1 h2
              simp [madeCells, bools, Nat.mod_one]
          rw [e, hw4]
          exact Blk.new _ _ _
        · have := q1.lt _ e; omega
        · have : unseen (List.replicate M.sl.length false) ≤ M.sl.length := by
            unfold unseen
            exact Nat.le_trans List.countP_le_length (by simp)
          omega
        · have : (rootsL M).length ≤ 40000 := by
            unfold rootsL
            rw [List.length_append, flat_len, ← HL.out]
            omega
          omega
      have hsb : w.heap.size ≤ wr.heap.size ∧ wr.heap.size < w4.heap.size := ⟨HTD2.out.2.2.size, by rw [hw4]; simp⟩
      rw [← hw4]
      obtain ⟨sb, hsbe⟩ : ∃ sb, sb = wr.heap.size := ⟨_, rfl⟩
      rw [← hsbe] at hs0 hsb ⊢
      obtain ⟨hsb1, hsb2⟩ := hsb
      obtain ⟨ns, hns⟩ : ∃ ns, ns = M.sl.length := ⟨_, rfl⟩
      rw [← hns] at hs0 hsll c5 ⊢
      have HNS := Lib.hid hns
      have HS0 := Lib.hid hs0
      clear hw4 hsbe hns HTD2 c5 hmk hs0 hml2 hsb2
      generalize 257 * ns + (rootsL M).length = gk0 at HS0
      go_loopg [3] gk0 (fun gk t wr => SrchAt w wr M sb gk t)
      case atStart => exact HS0.out
      case round =>
        obtain ⟨row, td, seen, htd, hsr, hbs, hrs, hms, hgb⟩ := hrel
        rcases List.eq_nil_or_concat td with rfl | ⟨t, x, rfl⟩
        · obtain ⟨A6, cap6, hv6⟩ := htd.1.lenI
          rw [List.length_nil] at hv6
          subst hv6
          have HTD := Lib.hid htd
          have HSR := Lib.hid hsr
          have HBS := Lib.hid hbs
          clear htd hsr hbs hrs hms hgb
          go_wp2_with fail
          have hsl2 : seen.length = ns := by rw [HSR.out.len, HNS.out]
          have HS2 := Lib.hid hsl2
          have hns3 : (ns : Int) ≤ 1000000 := by omega
          clear hsl2
          obtain ⟨wo, hwo⟩ : ∃ wo : World, wo = wr := ⟨_, rfl⟩
          rw [← hwo] at HTD HBS ⊢
          clear hwo
          go_loopw [8, 84] (fun o v wr => ∃ k : Nat, k ≤ ns ∧ v = .int .i64 k ∧ ∃ row, TodoAt w wr row o (seenTo seen k) ∧ Upd (fun _ => False) wo wr ∧ (∀ b, row = some b → wo.heap.size ≤ b)) (fun _ v _ => ns - (intOf v).toNat)
          case atStart => exact ⟨0, by omega, rfl, none, ⟨Row.nil _ _, fun k e => (by cases e), HTD.out.2.2⟩, Upd.refl _ _, fun b e => (by cases e)⟩
          case round =>
            obtain ⟨k, hk, rfl, row, htd, hu, hrow⟩ := hrel
            have HT := Lib.hid htd
            have HU := Lib.hid hu
            have HR := Lib.hid hrow
            clear htd hu hrow
            by_cases hlt : k < ns
            · have hltI : (k : Int) < (ns : Int) := by omega
              have hb := HBS.out.upd HU.out (fun e => e)
              have hc := hb.cell k
              rw [bools_at (by rw [HS2.out]; exact hlt)] at hc
              have hbl := hb.lt
              clear hb
              cases hsn : seen.getD k false with
              | true =>
                rw [hsn] at hc
                obtain ⟨N, hN⟩ : ∃ N, N = (seenTo seen k).length := ⟨_, rfl⟩
                have hN6 : N ≤ 1000000 := by have := seenTo_len seen k; omega
                have hrN : RowN wr 3 1 row u8 N (ints (seenTo seen k)) := by rw [hN]; exact HT.out.1.toI
                have HRN := Lib.hid (hrN.alloc (.cells #[.int .i64 k] 3))
                have HSN := Lib.hid hsn
                have HT2 : Hid (TodoAt w (wr.alloc (.cells #[.int .i64 k] 3)) row u8 (seenTo seen k)) := Lib.hid ⟨HT.out.1.alloc _, HT.out.2.1, HT.out.2.2.alloc _⟩
                have HW : Hid (wr.heap.size < (wr.alloc (.cells #[.int .i64 k] 3)).heap.size) := Lib.hid (by simp)
                clear hrN hN hsn
                go_wp2_with (at_builtin; refine wpList_append_rowN rfl (.tmp 90) (.tmp 92) 44 rfl 3 i0 (.int .i64 0) 1 8 Try.underlying44 hi hz0 hz1 hz2 rfl (by decide) _ rfl row N _ HRN.out ⟨wr.heap.size, 0, none⟩ 1 1 [.int .i64 k] rfl rfl (news_one _ _ _) (oneCell_one rfl) (by omega) (by unfold maxLen; omega) (by omega) ?_; intro g9 cap9 w9 hrow9 hg9 hat9 hlt9)
                refine ⟨⟨k + 1, by omega, by go_num, some g9, ?_, ?_, fun b hb => ?_⟩, by simp [intOf]; omega⟩
                · rw [seenTo_yes HSN.out]
                  exact HT2.out.grow (by exact hrow9) hg9 hat9
                · exact (HU.out.alloc _).trans ((Upd.refl (fun b => row = some b) _).grown hg9 (fun b hb => .inl hb)) (fun b hb => .inr (HR.out b hb))
                · injection hb with hb
                  subst hb
                  rcases hat9 with e9 | e9
                  · exact HR.out _ e9
                  · have := HU.out.size
                    have := HW.out
                    omega
              | false =>
                rw [hsn] at hc
                have HSN := Lib.hid hsn
                clear hsn
                go_wp2_with fail
                go_roundw
                case rel =>
                  refine ⟨k + 1, by omega, by go_num, row, ?_, HU.out, HR.out⟩
                  rw [seenTo_no HSN.out]
                  exact HT.out
                case measure => simp [intOf]; omega
            · obtain rfl : ns = k := by omega
              clear hlt
              go_wp2_with fail
              go_ret
              refine ⟨_, rfl, ⟨row, ?_, HT.out.2.1⟩, HT.out.2.2⟩
              have e : seenTo seen ns = reachL M := by
                rw [← reachL_of (M := M) (seen := seen) (fun k _ => HSR.out.done k), ← HNS.out]
                rfl
              rw [← e]
              exact HT.out.1
        · rw [List.concat_eq_append] at htd hsr hms
          obtain ⟨q1, q2, q3⟩ := htd
          have hget : (ints (t ++ [x]))[t.length]? = some (.int .i64 x) := by simp [ints]
          obtain ⟨g, cap6, hv6, rfl, hgl6, hgc6, _⟩ := q1.at_ hget
          rw [ints_len, List.length_append, List.length_singleton] at hv6
          subst hv6
          have hcap : t.length + 1 ≤ cap6 := by
            obtain ⟨cap2, cur, hv, _, h1, _⟩ := q1.block rfl
            injection hv with _ _ hc
            rw [ints_len, List.length_append, List.length_singleton] at h1
            omega
          have hpop : Row wr 3 (some g) (.slice (some ⟨g, 0, none⟩) t.length cap6) (ints t) := by
            have := Row.pop (k := t.length + 1) (by rw [← show ints t ++ [Value.int .i64 x] = ints (t ++ [x]) by simp [ints]] at q1; exact q1)
            rwa [ints_len] at this
          have htl : t.length + 1 ≤ 1000000000 := by rw [List.length_append, List.length_singleton] at hms; omega
          obtain ⟨⟨b0, b1⟩, _⟩ := hsr.todo x (by simp)
          obtain ⟨xn, rfl⟩ : ∃ xn : Nat, x = xn := ⟨x.toNat, by omega⟩
          have hxs : xn < seen.length := by rw [hsr.len]; omega
          have hxnI : (xn : Int) < (ns : Int) := by rw [HNS.out]; omega
          have hcell := hbs.cell xn
          rw [bools_at hxs] at hcell
          have hsbl := hbs.lt
          obtain ⟨tl, htln⟩ : ∃ tl, tl = t.length := ⟨_, rfl⟩
          rw [← htln] at hgc6 hpop htl hcap ⊢
          have htlI : (tl : Int) + 1 ≤ 1000000000 := by omega
          have hcapI : (tl : Int) + 1 ≤ (cap6 : Int) := by omega
          clear htl hcap
          have HPOP := Lib.hid hpop
          have HQ2 := Lib.hid q2
          have HQ3 := Lib.hid q3
          have HSR := Lib.hid hsr
          have HBS := Lib.hid hbs
          have HRS := Lib.hid hrs
          have HMS := Lib.hid hms
          have HTL := Lib.hid htln
          have HGB := Lib.hid hgb
          clear hgb hpop q1 q2 q3 hsr hbs hrs hms htln hget b0 b1
          by_cases hx0 : xn = 0
          · have hx0' : ((xn : Int) != 0) = false := by simp; omega
            clear hx0 hxs hxnI hcell hgl6
            go_wp2_with fail
            go_roundg (gk - 1)
            case rel =>
              refine ⟨some g, t, seen, ⟨HPOP.out, HQ2.out, HQ3.out⟩, HSR.out.skip (.inl (by simpa using hx0')), HBS.out, HRS.out, ?_, by have := HGB.out; omega⟩
              have := HMS.out
              rw [List.length_append, List.length_singleton] at this
              omega
            case measure =>
              have := HMS.out
              rw [List.length_append, List.length_singleton] at this
              omega
          · have hx0'  : ((xn : Int) != 0) = true := by simp; omega
            cases hsn : seen.getD xn false with
            | true =>
              rw [hsn] at hcell
              have HSN := Lib.hid hsn
              clear hsn hx0 hxs hgl6
              go_wp2_with fail
              go_roundg (gk - 1)
              case rel =>
                refine ⟨some g, t, seen, ⟨HPOP.out, HQ2.out, HQ3.out⟩, HSR.out.skip (.inr (by rw [Int.toNat_natCast]; exact HSN.out)), HBS.out, HRS.out, ?_, by have := HGB.out; omega⟩
                have := HMS.out
                rw [List.length_append, List.length_singleton] at this
                omega
              case measure =>
                have := HMS.out
                rw [List.length_append, List.length_singleton] at this
                omega
            | false =>
              rw [hsn] at hcell
              obtain ⟨gr, gcap, u, r, hv2, _, hgrl0, hgrc0, hrow0, _, _⟩ := H.out.sl.at_ (i := xn) (by rw [← HNS.out]; omega)
              have hgrc : wr.cell? ⟨gr, xn, none⟩ = some u := (HQ3.out.cell hgrl0 (fun e => e) xn).trans hgrc0
              have hgrl := Nat.lt_of_lt_of_le hgrl0 HQ3.out.size
              have c5 := (H.out.frame HQ3.out (fun _ e => e.elim)).c5
              rw [hv2, ← HNS.out] at c5
              have hml3 := Nat.lt_of_lt_of_le hml HQ3.out.size
              have hfr := HBS.out.frozen xn
              have hn1 : m ≠ sb := by omega
              have hn2 : gr ≠ sb := by omega
              have hn3 : sb ≠ m := by omega
              have hn4 : sb ≠ gr := by omega
              have hset : Upd (fun b => b = sb) wr (wr.setCell ⟨sb, xn, none⟩ (.bool true)) := (Upd.refl (fun b => b = sb) wr).setCell (p := ⟨sb, xn, none⟩) (.inl rfl) _
              have hall : Upd (fun _ => False) w (wr.setCell ⟨sb, xn, none⟩ (.bool true)) := HQ3.out.trans hset (fun b e => .inr (by omega))
              have htd5 : TodoAt w (wr.setCell ⟨sb, xn, none⟩ (.bool true)) (some g) (.slice (some ⟨g, 0, none⟩) tl cap6) t := ⟨HPOP.out.upd hset (fun b hb e => HRS.out (by rw [hb, e])), HQ2.out, hall⟩
              have hbs5 : Blk (wr.setCell ⟨sb, xn, none⟩ (.bool true)) sb 4 (bools (seen.set xn true)).toArray := by
                have := HBS.out.set_ xn (.bool true)
                rwa [bools_set] at this
              have hsr5 : Srch M (t ++ M.sl.getD xn []) (seen.set xn true) := by
                have := HSR.out.mark OK.out (by omega)
                rwa [Int.toNat_natCast] at this
              have hun := unseen_mark hxs hsn
              obtain ⟨l, hl⟩ : ∃ l, l = M.sl.getD xn [] := ⟨_, rfl⟩
              have hl256 : l.length ≤ 256 := by
                rw [hl, List.getD]
                cases e : M.sl[xn]? with
                | none => simp
                | some l => exact (OK.out.sl l (List.mem_of_getElem? e)).1
              rw [← hl] at hrow0 hsr5
              have hrowN : RowN (wr.setCell ⟨sb, xn, none⟩ (.bool true)) 3 1 (some g) (.slice (some ⟨g, 0, none⟩) tl cap6) tl (ints t) := by
                have := htd5.1.toI
                rwa [← HTL.out] at this
              have HTD5 := Lib.hid htd5
              have HBS5 := Lib.hid hbs5
              have HSR5 := Lib.hid hsr5
              have HUN := Lib.hid hun
              have HRN := Lib.hid hrowN
              have HLE := Lib.hid hl
              have hmeas : 257 * unseen (seen.set xn true) + (t ++ l).length ≤ gk - 1 := by
                have := HMS.out
                rw [List.length_append, List.length_singleton] at this
                rw [List.length_append]
                omega
              have HME := Lib.hid hmeas
              rcases hrow0.form with ⟨hnil, hl0, _⟩ | ⟨g9, cap9, hv9, _, hc9, hm9, hg9, hcell9, _⟩
              · have hl0' : l = [] := by
                  cases l with
                  | nil => rfl
                  | cons a l => simp [ints] at hl0
                rw [hnil] at hgrc
                have HL0 := Lib.hid hl0'
                clear hsn hx0 hxs hgl6 hset hall htd5 hbs5 hsr5 hun hrowN hl hrow0 hnil hl0 hl0' hgrc0 hv2 hmeas
                go_wp2_with (at_builtin; refine wpList_append_own_none rfl (.tmp 73) (.tmp 80) 44 rfl 0 3 i0 1 Try.underlying44 hi _ _ _ rfl HRN.out.1 rfl ?_)
                go_roundg (gk - 1)
                case rel =>
                  refine ⟨some g, t, _, HTD5.out, ?_, HBS5.out, HRS.out, ?_, by have := HGB.out; omega⟩
                  · have := HSR5.out
                    rwa [HL0.out, List.append_nil] at this
                  · have := HME.out
                    rwa [HL0.out, List.append_nil] at this
                case measure =>
                  have := HMS.out
                  rw [List.length_append, List.length_singleton] at this
                  omega
              · rw [ints_len] at hv9 hc9
                rw [hv9] at hgrc
                have hnews : ∀ j u, (ints l)[j]? = some u → (wr.setCell ⟨sb, xn, none⟩ (.bool true)).cell? ((⟨g9, 0, none⟩ : Addr).add j) = some u := by
                  intro j u hj
                  have hc := (hall.cell hg9 (fun e => e) j).trans (hcell9 j u hj)
                  by_cases j0 : j = 0
                  · subst j0
                    simpa [Addr.add] using hc
                  · simpa [Addr.add, j0] using hc
                have HNEW := Lib.hid hnews
                obtain ⟨ll, hll⟩ : ∃ ll, ll = l.length := ⟨_, rfl⟩
                rw [← hll] at hgrc
                have HLL := Lib.hid hll
                have hl256' : ll ≤ 256 := by omega
                have htl3 : tl ≤ 1000000000 := by omega
                have HT3 := Lib.hid htl3
                clear hsn hx0 hxs hgl6 hset hall htd5 hbs5 hsr5 hun hrowN hl hrow0 hgrc0 hv2 hmeas hnews hcell9 hv9 hc9 hm9 hl256 hll htl3
                go_wp2_with (at_builtin; refine wpList_append_anyN rfl (.tmp 73) (.tmp 80) 44 rfl 3 i0 (.int .i64 0) 1 8 Try.underlying44 hi hz0 hz1 hz2 rfl (by decide) _ rfl (some g) tl _ HRN.out ⟨g9, 0, none⟩ ll cap9 (ints l) rfl (by rw [ints_len, HLL.out, Nat.mul_one]) HNEW.out (ints_one _) (by have := HT3.out; unfold maxLen; omega) (by have := HT3.out; omega) ?_; intro v7 row7 w7 hrow7 hg7 hat7)
                go_roundg (gk - 1)
                case rel =>
                  refine ⟨row7, t ++ l, _, HTD5.out.grow2 hrow7 hg7 hat7, HSR5.out, HBS5.out.grown hg7 (fun e => HRS.out e.symm), fun e => ?_, HME.out, by have := HGB.out; omega⟩
                  rcases hat7 with e7 | e7
                  · exact HRS.out (e7.symm.trans e)
                  · have h1 := HBS5.out.lt
                    rw [e7] at e
                    injection e with e
                    omega
                case measure =>
                  have := HMS.out
                  rw [List.length_append, List.length_singleton] at this
                  omega
end
end Go.Proofs.Ytndldoamadmphaa
