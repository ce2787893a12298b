/- timer.sorted: a clone of the sleepers, sorted by slices.SortFunc. -/
import Derived.Test.YtgamaaeippdomaaSortSl
import Derived.Test.YtgamaaeippdomaaTmAt
namespace Go.Proofs.Ytgamaaeippdomaa
open Go.RowKit Go.Sort Go.Shelf

def encSl (s : Sl) : List Value := [.int .i64 s.when, .int .i64 s.g, .int .i64 s.seq]
instance : Inhabited Sl := ⟨sl0⟩

theorem ltOf_iff (a b : Sl) : ltOf ordI a b = true ↔ ltS a b := lessS_iff a b
theorem ltOf_no (a b : Sl) : ltOf ordI a b = false ↔ ¬ ltS a b := by
  rw [← ltOf_iff]
  simp
theorem swoS : SWO (ltOf ordI) where
  irrefl x := by rw [ltOf_no]; exact ltS_irr x
  trans x y z h1 h2 := by rw [ltOf_iff] at *; unfold ltS at *; omega
  ntrans x y z h1 h2 := by rw [ltOf_no] at *; unfold ltS at *; omega

def GrewBy (w w' : World) : Prop := ∃ q os, w' = grow (w.drewN q) os
theorem GrewBy.refl (w : World) : GrewBy w w := ⟨0, #[], by rw [grow_empty]; rfl⟩
theorem GrewBy.alloc {a w : World} (h : GrewBy a w) (o : Obj) : GrewBy a (w.alloc o) := by
  obtain ⟨q, os, rfl⟩ := h
  exact ⟨q, os ++ #[o], by rw [alloc_eq_grow, grow_grow]⟩
theorem GrewBy.drew {a w : World} (h : GrewBy a w) : GrewBy a w.drew := by
  obtain ⟨q, os, rfl⟩ := h
  exact ⟨q + 1, os, rfl⟩
set_option maxRecDepth 100000 in
set_option maxHeartbeats 1000000 in
theorem order_g (a b : Sl) (w : World) : Calls Try.prog 29 #[.agg (encSl a).toArray, .agg (encSl b).toArray] w fun e w' => e = .returned (.int .i64 (ordI a b)) ∧ GrewBy w w' := by
  unfold encSl
  go_enter Try.func29, Try.ntmps29
  go_wp2_with fail
  refine wp_still_tail 12 (by kernel_rfl) (by kernel_rfl) ?_
  simp only [List.take_succ_cons, List.take_zero, List.drop_succ_cons, List.drop_zero]
  repeat still_step
  still_call (still_of (cmp64_c _ _ _))
  repeat still_step
  still_call (still_of (cmp_c _ _ _))
  repeat still_step
  refine wpStill_nil ?_
  go_wp2_with fail
  have hb := (Blk.new' (g := w.heap.size + 1 + 1) ((w.alloc (.cells #[.int .i64 a.when, .int .i64 a.g, .int .i64 a.seq] 57)).alloc (.cells #[.int .i64 b.when, .int .i64 b.g, .int .i64 b.seq] 57)) 3 #[.int .i64 (cmpI a.when b.when), .int .i64 (cmpI a.seq b.seq)] (by simp)).drew
  refine (or_c (cmpI a.when b.when) (cmpI a.seq b.seq) (hb.cell 0) (hb.cell 1)).mono ?_
  rintro e w1 ⟨rfl, rfl⟩
  go_wp2_with fail
  go_ret
  exact ⟨rfl, ((((GrewBy.refl _).alloc _).alloc _).alloc _).drew⟩

theorem cmpLaysS (g : Nat) (n : Nat) (w : World) : CmpLays Try.prog 29 #[] encSl 3 ordI g 0 n w := fun _ _ _ _ x y => order_g x y _

theorem flat_cells (l : List Sl) : (flatK encSl 3 l.toArray).toList = cells3 l := by
  apply List.ext_getElem
  · simp [cells3_len]
  · intro t h1 h2
    have ht : t < l.length * 3 := by rw [cells3_len] at h2; exact h2
    have e := get_flatK encSl 3 l.toArray t (by simpa using ht)
    have hq : t / 3 < l.length := by omega
    have hg := cells3_get l (t / 3) l[t / 3] (List.getElem?_eq_getElem hq)
    have e2 : (flatK encSl 3 l.toArray)[t]! = (flatK encSl 3 l.toArray).toList[t] := by
      rw [getElem!_pos _ t (by simpa using ht)]
      rfl
    rw [← e2, e]
    have e3 : l.toArray[t / 3]! = l[t / 3] := by
      rw [getElem!_pos _ _ (by simpa using hq)]
      rfl
    rw [e3]
    have hr : t % 3 = 0 ∨ t % 3 = 1 ∨ t % 3 = 2 := by omega
    rcases hr with h | h | h
    · rw [h]
      have h3 : t / 3 * 3 = t := by omega
      rw [h3] at hg
      have := hg.1
      rw [List.getElem?_eq_getElem h2] at this
      injection this with this
      rw [this]; rfl
    · rw [h]
      have h3 : t / 3 * 3 + 1 = t := by omega
      rw [h3] at hg
      have := hg.2.1
      rw [List.getElem?_eq_getElem h2] at this
      injection this with this
      rw [this]; rfl
    · rw [h]
      have h3 : t / 3 * 3 + 2 = t := by omega
      rw [h3] at hg
      have := hg.2.2
      rw [List.getElem?_eq_getElem h2] at this
      injection this with this
      rw [this]; rfl
theorem slAt_holds {w : World} {g cap : Nat} {l : List Sl} (h : SlAt w (some g) (.slice (some ⟨g, 0, none⟩) l.length cap) l) : HoldsK encSl 3 w g 0 l.toArray := by
  rcases h.form with ⟨h, _⟩ | ⟨g', cap', cur, hv, _, _, _, hb, _, ht⟩
  · cases h
  · injection hv with e1 _ _
    injection e1 with e1
    injection e1 with e1
    subst e1
    intro j hj
    refine ⟨?_, by rw [Nat.zero_add]; exact hb.frozen j⟩
    rw [Nat.zero_add]
    refine take_cell hb ht j _ ?_
    have hj' : j < (cells3 l).length := by rw [cells3_len]; simpa using hj
    rw [List.getElem?_eq_getElem hj', getElem!_pos _ j hj]
    simp only [id]
    congr 1
    have e := flat_cells l
    rw [← Array.getElem_toList]
    simp only [e]
theorem sort_world {w : World} {g cap : Nat} {l l' : List Sl} (h : SlAt w (some g) (.slice (some ⟨g, 0, none⟩) l.length cap) l) (hl : l'.length = l.length) (n : Nat) (os : Array Obj) :
    SlAt (sortWorldK encSl 3 w g 0 n l'.toArray os) (some g) (.slice (some ⟨g, 0, none⟩) l.length cap) l' ∧ Upd (fun k => k = g) w (sortWorldK encSl 3 w g 0 n l'.toArray os) := by
  rcases h.form with ⟨h, _⟩ | ⟨g', cap', cur, hv, _, hc, hm, hb, hs, ht⟩
  · cases h
  · injection hv with e1 _ e2
    injection e1 with e1
    injection e1 with e1
    subst e1 e2
    have hgl := hb.lt
    unfold sortWorldK putRowK putRow
    have hblk : Blk (grow (mapBlock (Go.Sort.ahead w n) g (putCells id 0 (flatK encSl 3 l'.toArray))) os) g 57 (putCells id 0 (flatK encSl 3 l'.toArray) cur) := by
      unfold Blk
      rw [heap_grow_old _ _ (by simpa [mapBlock, Go.Sort.ahead] using hgl)]
      unfold mapBlock
      simp only [Array.getElem?_modify, if_true]
      have : (Go.Sort.ahead w n).heap[g]? = some (.cells cur 57 (0, 0)) := hb
      rw [this]
      rfl
    refine ⟨⟨⟨by rw [cells3_len], .inr ⟨g, cap, putCells id 0 (flatK encSl 3 l'.toArray) cur, by rw [hl], Nat.zero_le _, hblk, by omega, hm, ?_, ?_⟩⟩, rfl⟩, ⟨rfl, rfl, rfl, ?_, ?_⟩⟩
    · simpa [putCells] using hs
    · have hsz : (flatK encSl 3 l'.toArray).size = l'.length * 3 := by simp
      have hcs : l'.length * 3 ≤ cur.size := by rw [hs]; omega
      rw [← flat_cells l']
      apply List.ext_getElem
      · simp [putCells]
        omega
      · intro t h1 h2
        have ht2 : t < l'.length * 3 := by simpa using h2
        rw [List.getElem_take, Array.getElem_toList, Array.getElem_toList]
        unfold putCells
        rw [Array.getElem_mapIdx, if_pos ⟨Nat.zero_le _, by rw [hsz]; omega⟩]
        simp only [id, Nat.sub_zero]
        exact getElem!_pos _ t _
    · simp [mapBlock, Go.Sort.ahead]
    · intro k hk hkg
      rw [heap_grow_old _ _ (by simpa [mapBlock, Go.Sort.ahead] using hk)]
      unfold mapBlock
      simp only [Array.getElem?_modify]
      rw [if_neg (fun e => hkg e.symm)]
      rfl

theorem aggSl : ∀ w, (isAgg 57).run Try.prog w = .ok true w := fun _ => Try.isAgg57 _
theorem sizeSl : ∀ w, (Go.sizeOf 57).run Try.prog w = .ok 3 w := fun _ => Try.sizeOf57 _
theorem sort_c {w : World} {g cap : Nat} {l : List Sl} (h : SlAt w (some g) (.slice (some ⟨g, 0, none⟩) l.length cap) l) (hll : l.length < 1000000) :
    Calls Try.prog 28 #[.slice (some ⟨g, 0, none⟩) l.length cap, .func (.func 29) #[] #[]] w fun e w' => e = .returned (.tuple #[]) ∧
      ∃ l' : List Sl, l'.Perm l ∧ l'.Pairwise (fun a b => ¬ ltS b a) ∧ SlAt w' (some g) (.slice (some ⟨g, 0, none⟩) l.length cap) l' ∧ Upd (fun k => k = g) w w' := by
  have hgl : g < w.heap.size := RowN.lt h g rfl
  have hlen : l.length < 4611686018427387904 := by omega
  have eg : ∀ args w, (callFunc 29 args).run Try.prog w = .ok (.enter 29 args) w := enters_of Try.func29 (by kernel_rfl) rfl
  have hcon := AnyQ.slices_SortFunc sortSl 3 aggSl sizeSl encSl (fun _ => rfl) (fun x v hv => by simp [encSl] at hv; rcases hv with rfl | rfl | rfl <;> rfl) ordI swoS 29 #[] g 0 cap l.toArray w eg (cmpLaysS g l.length w) (slAt_holds h) hgl (by simpa using hlen)
  change Calls Try.prog 28 _ _ _ at hcon
  refine hcon.mono ?_
  rintro e w' ⟨rfl, d', n, os, hp, hs, rfl⟩
  have hsz : d'.size = l.length := by simpa using hp.1
  have hp2 : d'.toList.Perm l := by
    have := hp.2.2
    simpa [← hsz, List.take_of_length_le (Nat.le_of_eq hsz.symm)] using this
  refine ⟨rfl, d'.toList, hp2, ?_, ?_⟩
  · rw [List.pairwise_iff_getElem]
    intro i j hi hj hij
    have := hs i j (Nat.zero_le _) hij (by simpa [hsz] using hj)
    rw [ltOf_no, getElem!_pos d' i (by simpa using hi), getElem!_pos d' j (by simpa using hj)] at this
    simpa using this
  · have := sort_world (l' := d'.toList) h (by simpa using hsz) n os
    simpa using this
end Go.Proofs.Ytgamaaeippdomaa
