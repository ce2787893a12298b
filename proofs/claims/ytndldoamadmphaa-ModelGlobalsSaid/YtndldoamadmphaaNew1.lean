/- model.New. -/
import Derived.Test.YtndldoamadmphaaCode
import Derived.Deep.CutBlock
import Derived.Deep.DeepCutAuto
namespace Go.Proofs.Ytndldoamadmphaa
open Go.RowKit
def mo0 (globs : Int) (funcs : List (List In)) : Mo := ⟨globs, funcs, [], [], zeros globs.toNat, [[]], [], 0, fun _ => [], 0⟩
def newM (globs : Int) (funcs : List (List In)) : Mo := spawnM (mo0 globs funcs) 0 0
def NewS (w W : World) (globs : Int) (pv : Value) (W' : World) : Prop := W'.cell? ⟨w.heap.size, 0, none⟩ = some (.int .i64 globs) ∧ W'.cell? ⟨w.heap.size, 1, none⟩ = some pv ∧ Upd (fun _ => False) W W'
theorem NewS.next {w W Wa Wb : World} {globs : Int} {pv : Value} (hl : w.heap.size < W.heap.size) (h : Wa.cell? ⟨w.heap.size, 0, none⟩ = some (.int .i64 globs) ∧ Wa.cell? ⟨w.heap.size, 1, none⟩ = some pv ∧ Upd (fun _ => False) W Wa) (hu : Upd (fun _ => False) Wa Wb) :
    Wb.cell? ⟨w.heap.size, 0, none⟩ = some (.int .i64 globs) ∧ Wb.cell? ⟨w.heap.size, 1, none⟩ = some pv ∧ Upd (fun _ => False) W Wb := by
  obtain ⟨h1, h2, h3⟩ := h
  have hl2 := Nat.lt_of_lt_of_le hl h3.size
  exact ⟨(hu.cell hl2 (fun e => e) 0).trans h1, (hu.cell hl2 (fun e => e) 1).trans h2, h3.trans hu (fun _ e => .inl e)⟩
theorem Upd.allocF {w : World} (o : Obj) : Upd (fun _ => False) w (w.alloc o) := (Upd.refl _ _).alloc _
theorem Upd.drewF {w : World} : Upd (fun _ => False) w w.drew := (Upd.refl _ _).drew
theorem sz_alloc (w : World) (o : Obj) : (w.alloc o).heap.size = w.heap.size + 1 := by simp
theorem sz_drew (w : World) : w.drew.heap.size = w.heap.size := rfl
theorem Upd.tr {a b d : World} (h : Upd (fun _ => False) a b) (k : Upd (fun _ => False) b d) : Upd (fun _ => False) a d := h.trans k (fun _ e => .inl e)
theorem Upd.al {a b : World} (h : Upd (fun _ => False) a b) (o : Obj) : Upd (fun _ => False) a (b.alloc o) := h.alloc o
theorem Upd.dr {a b : World} (h : Upd (fun _ => False) a b) : Upd (fun _ => False) a b.drew := h.drew
theorem Blk.updF {a b : World} {g : Nat} {t : TypeId} {cs : Array Value} (h : Blk a g t cs) (k : Upd (fun _ => False) a b) : Blk b g t cs := h.upd k (fun e => e)
theorem StAt.updF {a b : World} {g g' : Nat} {l : List Int} {r : Option Nat} (h : StAt a g r l) (e : g' = g) (k : Upd (fun _ => False) a b) : StAt b g' r l := by rw [e]; exact h.upd k (fun _ _ e => e)
theorem HAt.updF {a b : World} {g g' : Nat} {r : Option Nat} {v : Value} {l : List Sl} {made : Int} (h : HAt a g r v l made) (e : g' = g) (k : Upd (fun _ => False) a b) : HAt b g' r v l made := by rw [e]; exact h.upd k (fun e => e) (fun _ _ e => e)
theorem WtAt.updF {a b : World} {g g' : Nat} {vs : Nat → Value} {rs : Nat → Option Nat} {L : Nat → List Int} (h : WtAt a g vs rs L) (e : g' = g) (k : Upd (fun _ => False) a b) : WtAt b g' vs rs L := by rw [e]; exact h.upd k (fun _ _ e => e)
/-- The blocks of a new model. -/
structure NewAt (w1 wx : World) (gn : Nat) (pv : Value) (m sa ta wa gb sb : Nat) : Prop where
  hm : Blk wx m 72 #[.int .i64 gn, pv, .pointer (some ⟨sa, 0, none⟩), .slice none 0 0, .slice (some ⟨gb, 0, none⟩) gn gn, .slice (some ⟨sb, 0, none⟩) 1 1, .pointer (some ⟨ta, 0, none⟩), .pointer (some ⟨wa, 0, none⟩), .int .i64 0]
  hs : StAt wx sa none []
  ht : HAt wx ta none (.slice none 0 0) [] 0
  hw : WtAt wx wa (fun _ => .slice none 0 0) (fun _ => none) (fun _ => [])
  hg : Blk wx gb 3 (madeCells #[.int .i64 0] gn)
  hb : Blk wx sb 44 #[.slice none 0 0]
  ge : w1.heap.size ≤ m ∧ w1.heap.size ≤ sa ∧ w1.heap.size ≤ ta ∧ w1.heap.size ≤ wa ∧ w1.heap.size ≤ gb ∧ w1.heap.size ≤ sb
  ne : (m ≠ sa ∧ m ≠ ta ∧ m ≠ wa ∧ m ≠ gb ∧ m ≠ sb) ∧ (sa ≠ ta ∧ sa ≠ wa ∧ sa ≠ gb ∧ sa ≠ sb) ∧ (ta ≠ wa ∧ ta ≠ gb ∧ ta ≠ sb) ∧ (wa ≠ gb ∧ wa ≠ sb) ∧ gb ≠ sb
  upd : Upd (fun _ => False) w1 wx
def NewC (w1 : World) (gn : Nat) (pv : Value) (p : Value) (wx : World) : Prop := ∃ m sa ta wa gb sb, p = .pointer (some ⟨m, 0, none⟩) ∧ NewAt w1 wx gn pv m sa ta wa gb sb
theorem NewAt.model {w1 wx : World} {c : Col} {gn : Nat} {pv : Value} {m sa ta wa gb sb : Nat} {funcs : List (List In)} (h : NewAt w1 wx gn pv m sa ta wa gb sb) (hg : gn ≤ 32) (hp : ProgAt w1 c pv funcs) :
    ∃ c' Y, ModelAt wx c' m Y (mo0 gn funcs) ∧ Keep c c' w1 ∧ ∀ k, w1.heap.size ≤ k → (c' k).1 ≤ 7 := by
  obtain ⟨g1, g2, g3, g4, g5, g6⟩ := h.ge
  obtain ⟨⟨n1, n2, n3, n4, n5⟩, ⟨n6, n7, n8, n9⟩, ⟨n10, n11, n12⟩, ⟨n13, n14⟩, n15⟩ := h.ne
  obtain ⟨c', hc⟩ : ∃ c' : Col, c' = fun k => if k < w1.heap.size then c k else if k = m then (0, 0) else if k = sa then (1, 0) else if k = ta then (5, 0) else if k = wa then (6, 0) else if k = gb then (3, 0) else if k = sb then (4, 0) else (7, 0) := ⟨_, rfl⟩
  have hK : Keep c c' w1 := fun k hk => by rw [hc]; simp only; rw [if_pos hk]
  have l1 := h.hm.lt
  have l2 := h.hs.lt sa (.inl rfl)
  have l3 := h.ht.blk.lt
  have l4 := h.hw.blk.lt
  have l5 := h.hg.lt
  have l6 := h.hb.lt
  have cm : c' m = (0, 0) := by rw [hc]; simp only; rw [if_neg (by omega), if_pos trivial]
  have cs : c' sa = (1, 0) := by rw [hc]; simp only; rw [if_neg (by omega), if_neg (by omega), if_pos trivial]
  have ct : c' ta = (5, 0) := by rw [hc]; simp only; rw [if_neg (by omega), if_neg (by omega), if_neg (by omega), if_pos trivial]
  have cw : c' wa = (6, 0) := by rw [hc]; simp only; rw [if_neg (by omega), if_neg (by omega), if_neg (by omega), if_neg (by omega), if_pos trivial]
  have cg : c' gb = (3, 0) := by rw [hc]; simp only; rw [if_neg (by omega), if_neg (by omega), if_neg (by omega), if_neg (by omega), if_neg (by omega), if_pos trivial]
  have cb : c' sb = (4, 0) := by rw [hc]; simp only; rw [if_neg (by omega), if_neg (by omega), if_neg (by omega), if_neg (by omega), if_neg (by omega), if_neg (by omega), if_pos trivial]
  refine ⟨c', ⟨pv, sa, .slice none 0 0, .slice (some ⟨gb, 0, none⟩) gn gn, .slice (some ⟨sb, 0, none⟩) 1 1, ta, wa, fun _ => 0⟩, ⟨h.hm, cm, hp.frame h.upd hK (fun _ e => e.elim), ⟨none, h.hs, cs, fun k e => by cases e⟩, ?_, ?_, ?_, ?_, ?_, ?_⟩, hK, ?_⟩
  · exact ⟨⟨none, Row.nil _ _, fun k e => by cases e⟩, fun i x hx => by simp [mo0] at hx⟩
  · refine ⟨some gb, ?_, fun k e => by injection e with e; subst e; exact cg⟩
    have e : ints (zeros gn) = (madeCells #[Value.int .i64 0] gn).toList := (made_zeros gn).symm
    show Row wx _ (some gb) _ (ints (zeros (gn : Int).toNat))
    rw [Int.toNat_natCast]
    have hlen : (ints (zeros gn)).length = gn := by simp [ints, zeros]
    have := Row.of_block (xs := ints (zeros gn)) (cap := gn) h.hg (by rw [hlen]; exact Nat.le_refl _) (by unfold maxLen; omega) (by simp [size_madeCells]) (by rw [hlen, e]; rw [List.take_of_length_le (by simp [size_madeCells])])
    rw [hlen] at this
    exact this
  · refine ⟨some sb, [.slice none 0 0], Row.of_block (xs := [.slice none 0 0]) (cap := 1) h.hb (by simp) (by unfold maxLen; omega) (by simp) (by simp), fun k e => by injection e with e; subst e; exact cb, rfl, fun i l hi => ?_⟩
    have hi0 : i = 0 ∧ l = [] := by
      rcases i with _ | i
      · simp [mo0] at hi; exact ⟨rfl, hi⟩
      · simp [mo0] at hi
    obtain ⟨rfl, rfl⟩ := hi0
    exact ⟨.slice none 0 0, none, rfl, Row.nil _ _, fun k e => by cases e⟩
  · exact ⟨none, .slice none 0 0, h.ht, fun k h0 hk => absurd hk (by simp [mo0]), ct, fun k e => by cases e⟩
  · exact ⟨_, _, h.hw, cw, fun i hi k e => by cases e⟩
  · intro k hk
    have := h.upd.size
    rw [hc]
    simp only
    rw [if_neg (by omega), if_neg (by omega), if_neg (by omega), if_neg (by omega), if_neg (by omega), if_neg (by omega), if_neg (by omega)]
  · intro k hk
    rw [hc]
    simp only
    rw [if_neg (by omega)]
    repeat' split
    all_goals decide
/-- What New leaves: a model, apart from all that there was. -/
def NewPost (w : World) (c : Col) (globs : Int) (funcs : List (List In)) (v : Value) (w' : World) : Prop :=
  ∃ m c' Y, v = .tuple #[.pointer (some ⟨m, 0, none⟩), .int .i64 0] ∧ ModelAt w' c' m Y (newM globs funcs) ∧ Upd (fun _ => False) w w' ∧ Keep c c' w ∧ ∀ k, w.heap.size ≤ k → (c' k).1 ≤ 7
section
variable {w : World} {c : Col} {pv : Value} {globs : Int} {funcs : List (List In)}
set_option maxRecDepth 100000 in
set_option maxHeartbeats 2000000 in
theorem new_no (h : ProgAt w c pv funcs) (hn : ¬ progOK globs funcs) :
    Calls Try.prog 15 #[.agg #[.int .i64 globs, pv]] w fun e w' => e = .returned (.tuple #[.pointer none, .int .i64 1]) ∧ Upd (fun _ => False) w w' := by
  have hw : Upd (fun _ => False) w (w.alloc (.cells #[.int .i64 globs, pv] 24)) := Upd.allocF _
  have Hm := Lib.hid (maycode_c (globs := globs) (h.frame hw (Keep.refl _ _) (fun _ e => e.elim)))
  have HW := Lib.hid hw
  have HN := Lib.hid hn
  clear h hw hn
  go_enter Try.func15, Try.ntmps15
  go_wp2_with fail
  refine Hm.out.mono ?_
  rintro e w1 ⟨r, rfl, hr, hu⟩
  have hr0 : (r != 0) = true := by simpa using fun e => HN.out (hr.1 e)
  clear hr
  go_wp2_with fail
  go_ret2
  exact ⟨rfl, HW.out.trans hu (fun _ e => .inl e)⟩
set_option maxRecDepth 100000 in
set_option maxHeartbeats 4000000 in
theorem new_yes (h : ProgAt w c pv funcs) (hp : progOK globs funcs) (h7 : ∀ k, 7 ≤ (c k).1) (hf7 : ∀ k, w.heap.size ≤ k → (c k).1 = 7) :
    Calls Try.prog 15 #[.agg #[.int .i64 globs, pv]] w fun e w' => ∃ v, e = .returned v ∧ NewPost w c globs funcs v w' := by
  have hw : Upd (fun _ => False) w (w.alloc (.cells #[.int .i64 globs, pv] 24)) := Upd.allocF _
  have Hm := Lib.hid (maycode_c (globs := globs) (h.frame hw (Keep.refl _ _) (fun _ e => e.elim)))
  have bp : Blk (w.alloc (.cells #[.int .i64 globs, pv] 24)) w.heap.size 24 #[.int .i64 globs, pv] := Blk.new _ _ _
  have HW := Lib.hid hw
  have HP := Lib.hid hp
  have HBP := Lib.hid bp
  have HH := Lib.hid h
  have H7 := Lib.hid h7
  have HF7 := Lib.hid hf7
  clear h7 hf7
  obtain ⟨gn, hgn⟩ : ∃ gn : Nat, globs = gn := ⟨globs.toNat, by have := hp.2.1; omega⟩
  have hg32 : gn ≤ 32 := by have := hp.2.1; omega
  subst hgn
  have hmk := fun w => run_make_row' (P := Try.prog) 44 3 (.int .i64 0) 8 Try.underlying44 (by kernel_rfl) rfl .i64 .i64 gn (by omega) (by omega) w
  have hgI : (gn : Int) ≤ 32 := by omega
  have hg0 : (0 : Int) ≤ (gn : Int) := by omega
  clear h hw hp bp
  go_enter Try.func15, Try.ntmps15
  go_wp2_with fail
  refine Hm.out.mono ?_
  rintro e w1 ⟨r, rfl, hr, hu⟩
  obtain rfl : r = 0 := hr.2 HP.out
  have b1 := HBP.out.upd hu (fun e => e)
  have hl := b1.lt
  have s0 : w1.cell? ⟨w.heap.size, 0, none⟩ = some (.int .i64 gn) ∧ w1.cell? ⟨w.heap.size, 1, none⟩ = some pv ∧ Upd (fun _ => False) w1 w1 := ⟨b1.cell 0, b1.cell 1, Upd.refl _ _⟩
  have HL := Lib.hid hl
  have HU := Lib.hid hu
  clear hr hu b1
  go_upto_region 3 with (fail)
  go_cut [4] (fun p wx => NewC w1 gn pv p wx)
  case first =>
    --STUB(
    go_region_held3 (fun W' => W'.cell? ⟨w.heap.size, 0, none⟩ = some (.int .i64 gn) ∧ W'.cell? ⟨w.heap.size, 1, none⟩ = some pv ∧ Upd (fun _ => False) w1 W')
      (first | exact NewS.next HL.out (by assumption) (by assumption) | exact NewS.next HL.out (by assumption) (Upd.allocF _) | exact NewS.next HL.out (by assumption) Upd.drewF)
      (first | (go_at_call 35; refine (snew_c _).mono ?_; rintro e ws ⟨rfl, hst, hus⟩; have ls := hst.lt _ (.inl rfl)) | (go_at_call 36; refine (tnew_c _).mono ?_; rintro e wt ⟨rfl, htm, hut⟩; have lt := htm.blk.lt) | (go_at_call 37; refine (wnew_c _).mono ?_; rintro e ww ⟨rfl, hwt, huw⟩; have lw := hwt.blk.lt))
    all_goals
      go_wp2_with fail
      go_meet
      case rel =>
        refine ⟨_, _, _, _, _, _, rfl, Blk.new' _ _ _ (by first | rfl | simp), StAt.updF hst (by first | rfl | simp) ?_, HAt.updF htm (by first | rfl | simp) ?_, WtAt.updF hwt (by first | rfl | simp) ?_, ?_, ?_, ?_, ?_, ?_⟩
        · (with_reducible repeat (first | assumption | exact Upd.refl _ _ | refine Upd.al ?_ _ | refine Upd.dr ?_ | refine Upd.tr ?_ (by assumption)))
        · (with_reducible repeat (first | assumption | exact Upd.refl _ _ | refine Upd.al ?_ _ | refine Upd.dr ?_ | refine Upd.tr ?_ (by assumption)))
        · (with_reducible repeat (first | assumption | exact Upd.refl _ _ | refine Upd.al ?_ _ | refine Upd.dr ?_ | refine Upd.tr ?_ (by assumption)))
        · (with_reducible repeat (first | exact Blk.new' _ _ _ (by first | rfl | (simp; done)) | refine Blk.alloc ?_ _ | refine Blk.drew ?_ | refine Blk.updF ?_ (by assumption)))
        · (with_reducible repeat (first | exact Blk.new' _ _ _ (by first | rfl | (simp; done)) | refine Blk.alloc ?_ _ | refine Blk.drew ?_ | refine Blk.updF ?_ (by assumption)))
        · simp only [sz_alloc, sz_drew] at ls lt lw ⊢
          omega
        · simp only [sz_alloc, sz_drew] at ls lt lw ⊢
          omega
        · (with_reducible repeat (first | assumption | exact Upd.refl _ _ | refine Upd.al ?_ _ | refine Upd.dr ?_ | refine Upd.tr ?_ (by assumption)))
    --STUB)
  case rest =>
    obtain ⟨m, sa, ta, wa, gb, sb, rfl, hna⟩ := hcut
    have hu1 := HW.out.trans HU.out (fun _ e => .inl e)
    have hu2 := hu1.trans hna.upd (fun _ e => .inl e)
    obtain ⟨c', Y, hM, hK, hc7⟩ := hna.model hg32 (HH.out.frame hu1 (Keep.refl _ _) (fun _ e => e.elim))
    have Hsp := Lib.hid (mspawn_c hM (by simp [mo0]) rfl 0 0)
    have hl1 := hu1.size
    have HK := Lib.hid hK
    have HC7 := Lib.hid hc7
    have HU2 := Lib.hid hu2
    have HU1 := Lib.hid hu1
    have HNU := Lib.hid hna.upd
    clear hM hK hc7 hu2 hu1 hna hmk s0
    go_wp2_with fail
    refine Hsp.out.mono ?_
    rintro e w3 ⟨rfl, c3, Y3, a1, a2, a3, a4, a5⟩
    have hfin : NewPost w c gn funcs (.tuple #[.pointer (some ⟨m, 0, none⟩), .int .i64 0]) w3 := by
      have hsz := HU1.out.size
      have hsz2 := HNU.out.size
      refine ⟨m, c3, Y3, rfl, a1, HU2.out.trans a2 (fun k hk => ?_), fun k hk => ?_, fun k hk => ?_⟩
      · by_cases hkw : k < w.heap.size
        · rw [HK.out k (by omega)] at hk
          have := H7.out k
          omega
        · exact .inr (by omega)
      · rw [a3 k (by omega), HK.out k (by omega)]
      · by_cases h1 : k < wc.heap.size
        · rw [a3 k h1]
          by_cases h2 : k < w1.heap.size
          · rw [HK.out k h2, HF7.out k hk]
            exact Nat.le_refl _
          · exact HC7.out k (by omega)
        · by_cases h3 : k < w3.heap.size
          · have := a5 k (by omega) h3
            omega
          · have := a1.free k (by omega)
            omega
    go_wp2_with fail
    go_ret2
    exact ⟨_, rfl, hfin⟩
end
end Go.Proofs.Ytndldoamadmphaa
