/- 'Rows.StatePlaysSaid': treadmilllaw12.StatePlays returns true for any list of ops. No condition. -/
import Derived.Test.YtfcbidlpficdgaaStTold
import Derived.Test.YtfcbidlpficdgaaInts
import Derived.Deep.DeepCutAuto
import Derived.Deep.CutBlock
namespace Go.Proofs.Ytfcbidlpficdgaa.statePlays
open Go.ChangeShapes Go.WideShapes Go.ChangeAt Go.RowKit

def sumTo (L : List Int) : Nat → Nat
  | 0 => 0
  | k + 1 => sumTo L k + cnt L ((k : Int) + 1)
theorem sumTo_le (L : List Int) (k : Nat) : sumTo L k ≤ k * L.length := by
  induction k with
  | zero => simp [sumTo]
  | succ k ih =>
    have := cnt_le L ((k : Int) + 1)
    simp only [sumTo, Nat.add_mul, Nat.one_mul]
    omega
theorem cnt_cons (x : Int) (L : List Int) (k : Int) : cnt (x :: L) k = (if x = k then 1 else 0) + cnt L k := by
  unfold cnt
  by_cases h : x = k
  · simp [h]; omega
  · have : (x == k) = false := by simpa using h
    simp [h, this]
theorem sumTo5 (L : List Int) (h : ∀ x ∈ L, 1 ≤ x ∧ x ≤ 5) : sumTo L 5 = L.length := by
  have e : sumTo L 5 = cnt L 1 + cnt L 2 + cnt L 3 + cnt L 4 + cnt L 5 := by
    simp only [sumTo]
    simp
  rw [e]
  clear e
  induction L with
  | nil => rfl
  | cons x L ih =>
    have ih' := ih (fun y hy => h y (List.mem_cons_of_mem _ hy))
    have hx := h x (by simp)
    simp only [cnt_cons, List.length_cons]
    rcases (show x = 1 ∨ x = 2 ∨ x = 3 ∨ x = 4 ∨ x = 5 by omega) with rfl | rfl | rfl | rfl | rfl <;> simp <;> omega

structure PlAt (w : World) (a : Nat) (wr : World) (v : Value) (L : List Int) : Prop where
  ex : ∃ row rl, StAt wr a row L ∧ Row wr 3 rl v (ints L) ∧ (∀ k, own1 a row k → w.heap.size ≤ k) ∧ (∀ k, rl = some k → w.heap.size ≤ k ∧ ¬ own1 a row k)
  u : Upd (fun _ => False) w wr

theorem PlAt.keep {w wr wr' : World} {a : Nat} {v : Value} {L : List Int} (h : PlAt w a wr v L) (hu : Upd (fun _ => False) wr wr') : PlAt w a wr' v L := by
  obtain ⟨row, rl, h1, h2, h3, h4⟩ := h.ex
  exact ⟨⟨row, rl, h1.keep hu, h2.upd hu (fun _ _ e => e), h3, h4⟩, h.u.tail hu (fun _ e => e.elim)⟩

theorem pl_spawn {w W w2 w3 : World} {a g cap3 : Nat} {row row2 rl : Option Nat} {L : List Int} {x : Value} (hu : Upd (fun _ => False) w W) (hfr : ∀ k, own1 a row k → w.heap.size ≤ k)
    (hrl : ∀ k, rl = some k → w.heap.size ≤ k ∧ ¬ own1 a row k) (hrlt : ∀ k, rl = some k → k < W.heap.size) (h2 : StAt w2 a row2 (L ++ [1])) (u2 : Upd (own1 a row) W w2) (hr2 : ∀ k, row2 = some k → row = some k ∨ W.heap.size ≤ k)
    (hrow3 : RowN w3 3 1 (some g) (.slice (some ⟨g, 0, none⟩) (L.length + 1) cap3) (L.length + 1) (ints L ++ [.int .i64 1])) (hg3 : (w2.alloc (.cells #[x] 3)).grownBy w3 rl) (hat : rl = some g ∨ g = w2.heap.size + 1) :
    PlAt w a w3 (.slice (some ⟨g, 0, none⟩) (L.length + 1) cap3) (L ++ [1]) := by
  have hs1 := hu.size
  have hs2 := u2.size
  have hnot : ∀ k, rl = some k → ¬ own1 a row2 k := by
    intro k hk h
    rcases h with h | h
    · exact (hrl k hk).2 (.inl h)
    · rcases hr2 k h with h | h
      · exact (hrl k hk).2 (.inr h)
      · have := hrlt k hk; omega
  have u3 : Upd (fun k => rl = some k) w2 w3 := ((Upd.refl _ _).alloc _).grown hg3 (fun k hk => .inl hk)
  have hfr2 : ∀ k, own1 a row2 k → w.heap.size ≤ k := by
    rintro k (h | h)
    · exact hfr k (.inl h)
    · rcases hr2 k h with h | h
      · exact hfr k (.inr h)
      · omega
  refine ⟨⟨row2, some g, h2.upd u3 (fun k hk e => hnot k e hk), ?_, hfr2, ?_⟩, ?_⟩
  · have := hrow3.to1
    simpa [ints] using this
  · intro k hk
    injection hk with hk
    subst hk
    rcases hat with h | h
    · exact ⟨(hrl g h).1, hnot g h⟩
    · refine ⟨by omega, fun e => ?_⟩
      have := h2.lt g e
      omega
  · exact (hu.tail u2 hfr).tail u3 (fun k hk => (hrl k hk).1)

theorem pl_move {w W w2 : World} {a : Nat} {row rl : Option Nat} {L' : List Int} {v : Value} (hu : Upd (fun _ => False) w W) (hfr : ∀ k, own1 a row k → w.heap.size ≤ k)
    (hrl : ∀ k, rl = some k → w.heap.size ≤ k ∧ ¬ own1 a row k) (hrow : Row W 3 rl v (ints L')) (h2 : StAt w2 a row L') (u2 : Upd (own1 a row) W w2) : PlAt w a w2 v L' :=
  ⟨⟨row, rl, h2, hrow.upd u2 (fun k hk e => (hrl k hk).2 e), hfr, hrl⟩, hu.tail u2 hfr⟩

set_option maxRecDepth 100000 in
set_option maxHeartbeats 4000000 in
theorem walk (A : Option Addr) (n cap : Nat) (f : Nat → Nat → Int) (w : World) (hr : RdF w A n 3 f) :
    Calls Try.prog 3 #[.slice A n cap] w fun e w' => e = .returned (.bool true) ∧ Below w.heap.size w w' := by
  have hmax := hr.1
  unfold maxLen at hmax
  go_enter Try.func3, Try.ntmps3
  go_wp2_with fail
  refine (snew_c _).mono ?_
  rintro e' w1 ⟨rfl, h1, u1⟩
  have ha : ∃ a, a = w.heap.size := ⟨_, rfl⟩
  obtain ⟨a, ha⟩ := ha
  rw [← ha] at h1 ⊢
  have h0 : PlAt w a w1 (.slice none 0 0) [] := ⟨⟨none, none, h1, Row.nil _ _, (by
    rintro k (rfl | hk)
    · omega
    · cases hk), (by rintro k hk; cases hk)⟩, u1⟩
  have H0 := Lib.hid h0
  clear h0 h1 u1 ha
  go_wp2_with fail
  go_loopw [4, 5] (fun v i wr => ∃ k : Nat, k ≤ n ∧ k ≤ 100 ∧ i = .int .i64 k ∧ ∃ L, L.length ≤ k ∧ PlAt w a wr v L) (fun _ i _ => n - (intOf i).toNat)
  case atStart => exact ⟨0, by omega, by omega, rfl, [], by simp, H0.out⟩
  case round =>
    clear H0
    obtain ⟨k, hk, hk1, rfl, L, hL, hP⟩ := hrel
    have HP := Lib.hid hP
    clear hP
    by_cases hlt : k < n ∧ k < 100
    · obtain ⟨hlt, hlt1⟩ := hlt
      have hI : (k : Int) < 100 := by omega
      obtain ⟨b, off, rfl, hbl, hcells⟩ := (hr.upd HP.out.u (fun _ e => e.elim)).2 (by omega)
      have g0 := hcells k hlt 0 (by omega)
      have g1 := hcells k hlt 1 (by omega)
      have g2 := hcells k hlt 2 (by omega)
      generalize f k 0 = K at g0
      generalize f k 1 = G at g1
      generalize f k 2 = T at g2
      rw [Nat.add_zero] at g0
      rw [← Nat.add_assoc] at g1 g2
      clear hcells
      go_upto_if 38 with (fail)
      obtain ⟨W, hW⟩ : ∃ W, W = wr.alloc (.cells #[.int .i64 K, .int .i64 G, .int .i64 T] 27) := ⟨_, rfl⟩
      have uW : Upd (fun _ => False) wr W := by rw [hW]; exact (Upd.refl _ _).alloc _
      have hB : Blk W wr.heap.size 27 #[.int .i64 K, .int .i64 G, .int .i64 T] := by rw [hW]; exact Blk.new _ _ _
      have hPW := HP.out.keep uW
      have hwx : w.heap.size ≤ wr.heap.size := HP.out.u.size
      have hxn : ∀ row, StAt wr a row L → ¬ own1 a row wr.heap.size := fun row h e => by have := h.lt _ e; omega
      obtain ⟨row, rl, hst0, hrow0, hfr0, hrl0⟩ := HP.out.ex
      have hxo := hxn row hst0
      have hxl : rl ≠ some wr.heap.size := fun e => by have := hrow0.lt _ e; omega
      have hst := hst0.keep uW
      have hrow := hrow0.upd uW (fun _ _ e => e)
      have hu := HP.out.u.tail uW (fun _ e => e.elim)
      rw [← hW]
      generalize wr.heap.size = x at *
      have hlen : (ints L).length = L.length := by simp [ints]
      obtain ⟨A', cap', hv⟩ := hrow.sl
      rw [hlen] at hv
      subst hv
      have Hst := Lib.hid hst
      have Hrow := Lib.hid hrow
      have Hu := Lib.hid hu
      have Hfr := Lib.hid hfr0
      have Hrl := Lib.hid hrl0
      have HB := Lib.hid hB
      have Hlen := Lib.hid hlen
      clear hst hrow hu hfr0 hrl0 hB hlen HP hPW hxn hst0 hrow0 uW hW g0 g1 g2 hr hbl
      generalize ((wrap64 (K.tmod 3 + 3)).tmod 3 == 0) = z
      go_cut [4] (fun v wc => ∃ L', L'.length ≤ k + 1 ∧ PlAt w a wc v L')
      case first =>
        cases z
        · have b0 : W.cell? ⟨x, 0, none⟩ = some (.int .i64 K) := HB.out.cell 0
          have b1 : W.cell? ⟨x, 1, none⟩ = some (.int .i64 G) := HB.out.cell 1
          have b2 : W.cell? ⟨x, 2, none⟩ = some (.int .i64 T) := HB.out.cell 2
          by_cases hin : 0 ≤ G ∧ G < L.length
          · obtain ⟨hG0, hG1⟩ := hin
            obtain ⟨b3, hb3⟩ : ∃ b3, rl = some b3 := by
              rcases Hrow.out.form with ⟨_, h2, _⟩ | ⟨b3, _, _, h3, _⟩
              · rw [← Hlen.out, h2] at hG1
                simp at hG1
                omega
              · exact ⟨b3, h3⟩
            obtain ⟨cap4, cur4, hv4, hblk4, _⟩ := Hrow.out.block hb3
            rw [Hlen.out] at hv4
            injection hv4 with e1 _ e2
            subst e1 e2
            have hGn : G.toNat < L.length := by omega
            have c4 : W.cell? ⟨b3, G.toNat, none⟩ = some (.int .i64 (L.getD G.toNat 0)) := by
              rcases Hrow.out.form with ⟨h1, _⟩ | ⟨b4, cap5, h1, h2, _, _, _, hc, _⟩
              · cases h1
              · rw [hb3] at h2
                injection h2 with h2
                subst h2
                exact hc _ _ (by simp [ints, List.getD, hGn])
            have f4 := hblk4.frozen G.toNat
            have hofe : ofL L G = L.getD G.toNat 0 := by unfold ofL; rw [if_pos (by omega)]
            have hne : ofL L G ≠ 0 := by
              have := Hst.out.rng (L.getD G.toNat 0) (by simp [List.getD, hGn])
              rw [hofe]; omega
            have hbx : b3 ≠ x := fun e => hxl (by rw [hb3, e])
            rw [← hofe] at c4
            obtain ⟨y, hy⟩ : ∃ y, y = ofL L G := ⟨_, rfl⟩
            rw [← hy] at c4
            have hstd : StAt W.drew a row L := Hst.out.upd (S := fun _ => False) (Upd.refl _ _).drew (fun _ _ e => e)
            have hgI : (G.toNat : Int) = G := by omega
            cases hm : mayB y T
            · have hmc := rmay_c y T W.drew
              rw [hm] at hmc
              have Hmc := Lib.hid hmc
              have Hmv := Lib.hid (move_no hstd G T hne (by rw [← hy]; exact hm))
              have Hx := Lib.hid (And.intro hofe (And.intro hy (And.intro hm hgI)))
              clear hmc hofe hy hm hgI hblk4 hb3 hstd f4
              go_wp2_with fail
              refine wp_still (by kernel_rfl) (by kernel_rfl) ?_
              repeat still_step
              still_call (still_of Hmc.out)
              repeat still_step
              refine wpStill_nil ?_
              go_wp2_with fail
              refine Hmv.out.mono ?_
              rintro e' w2 ⟨rfl, hb2⟩
              go_wp2_with fail
              go_meet
              case rel =>
                have u2 : Upd (own1 a row) W w2 := ((Upd.refl _ _).drew).trans (Upd.of_below (S := fun _ => False) hb2) (fun _ e => e.elim)
                exact ⟨L, by omega, pl_move Hu.out Hfr.out Hrl.out Hrow.out (Hst.out.upd (S := fun _ => False) (((Upd.refl _ _).drew).trans (Upd.of_below (S := fun _ => False) hb2) (fun _ e => e.elim)) (fun _ _ e => e)) u2⟩
            · have hmc := rmay_c y T W.drew
              rw [hm] at hmc
              have Hmc := Lib.hid hmc
              have us : Upd (fun k => rl = some k) W (W.drew.setCell ⟨b3, G.toNat, none⟩ (.int .i64 T)) := ((Upd.refl (fun k => rl = some k) W).drew).setCell (p := ⟨b3, G.toNat, none⟩) (.inl hb3) _
              have hsts : StAt (W.drew.setCell ⟨b3, G.toNat, none⟩ (.int .i64 T)) a row L := Hst.out.upd us (fun k hk e => (Hrl.out k e).2 hk)
              have hrow1 := Hrow.out.upd (S := fun _ => False) (Upd.refl _ _).drew (fun _ _ e => e)
              have hrows := hrow1.set_ hb3 G.toNat (.int .i64 T)
              have e3 : (ints L).set G.toNat (.int .i64 T) = ints (L.set G.toNat T) := by simp [ints]
              rw [e3] at hrows
              clear hrow1 e3
              have Hmv := Lib.hid (move_yes hsts G T hne (by rw [← hy]; exact hm))
              have Hx := Lib.hid (And.intro hofe (And.intro hy (And.intro hm hgI)))
              have Hus := Lib.hid us
              have Hrows := Lib.hid hrows
              clear hmc hofe hy hm hgI hblk4 hb3 hstd us hsts hrows
              go_wp2_with fail
              refine wp_still (by kernel_rfl) (by kernel_rfl) ?_
              repeat still_step
              still_call (still_of Hmc.out)
              repeat still_step
              refine wpStill_nil ?_
              go_wp2_with fail
              refine Hmv.out.mono ?_
              rintro e' w2 ⟨rfl, h2, u2⟩
              go_wp2_with fail
              go_meet
              case rel =>
                refine ⟨L.set G.toNat T, by simp; omega, ?_⟩
                exact pl_move (Hu.out.tail Hus.out (fun k hk => (Hrl.out k hk).1)) Hfr.out Hrl.out Hrows.out h2 u2
          · have hof : ofL L G = 0 := by unfold ofL; rw [if_neg hin]
            have hmv := move_none Hst.out G T hof
            have Hmv := Lib.hid hmv
            clear hmv
            have hstr : StAt W a row L := Hst.out
            by_cases hG0 : 0 ≤ G
            · have hG1 : (L.length : Int) ≤ G := by omega
              have hG2 : decide (G < (L.length : Int)) = false := by simpa using hG1
              clear hin
              go_wp2_with fail
              refine Hmv.out.mono ?_
              rintro e' w2 ⟨rfl, rfl⟩
              go_wp2_with fail
              go_meet
              case rel => exact ⟨L, by omega, pl_move Hu.out Hfr.out Hrl.out Hrow.out Hst.out (Upd.refl _ _)⟩
            · have hG1 : G < 0 := by omega
              have hG2 : decide (0 ≤ G) = false := by simpa using hG1
              clear hin hG0
              go_wp2_with fail
              refine Hmv.out.mono ?_
              rintro e' w2 ⟨rfl, rfl⟩
              go_wp2_with fail
              go_meet
              case rel => exact ⟨L, by omega, pl_move Hu.out Hfr.out Hrl.out Hrow.out Hst.out (Upd.refl _ _)⟩
        · obtain ⟨i0, hi, hz0, hz1, hz2⟩ := info_parts Try.int_info
          have Hsp := Lib.hid (spawn_c Hst.out (by omega))
          go_wp2_with fail
          refine Hsp.out.mono ?_
          rintro e' w2 ⟨rfl, row2, h2, u2, hr2⟩
          have hrow2 := Hrow.out.upd u2 (fun j hj e => (Hrl.out j hj).2 e)
          have Hrow2 := Lib.hid hrow2
          clear hrow2
          go_wp2_with (at_builtin; refine wpList_append_rowN rfl (.tmp 52) (.tmp 53) 25 rfl 3 i0 (.int .i64 0) 1 8 Try.underlying25 hi hz0 hz1 hz2 rfl (by decide) _ rfl rl (ints L).length (ints L) (Hrow2.out.alloc _).toN ⟨w2.heap.size, 0, none⟩ 1 1 [.int .i64 1] rfl rfl (news_one _ _ _) (oneCell_one rfl) (by omega) ?c3 ?c4 ?_)
          case c3 => rw [Hlen.out]; unfold maxLen; omega
          case c4 => rw [Hlen.out]; omega
          intro g cap3 w3 hrow3 hg3 hat hlt3
          go_wp2_with fail
          go_meet
          case rel =>
            refine ⟨L ++ [1], by simp; omega, ?_⟩
            rw [Hlen.out] at hrow3 ⊢
            exact pl_spawn Hu.out Hfr.out Hrl.out (Hrow.out.lt) h2 u2 hr2 hrow3 hg3 (by simpa using hat)
      case rest =>
        clear Hst Hrow Hu Hfr Hrl HB
        obtain ⟨L', hL', hP⟩ := hcut
        have hn100 : L'.length ≤ 100 := by omega
        obtain ⟨row', rl', hst, hrow, _, _⟩ := hP.ex
        have hlen : (ints L').length = L'.length := by simp [ints]
        obtain ⟨A', cap', hv⟩ := hrow.sl
        rw [hlen] at hv
        subst hv
        have hrd := hrow.rdf
        have hcellsL : ∀ j, j < L'.length → ∃ b3, A' = some ⟨b3, 0, none⟩ ∧ wc.cell? ⟨b3, j, none⟩ = some (.int .i64 (L'.getD j 0)) := by
          intro j hj
          rcases hrow.form with ⟨_, h2, _⟩ | ⟨b4, cap5, h1, _, _, _, _, hc, _⟩
          · rw [h2] at hlen
            simp at hlen
            omega
          · injection h1 with e1
            exact ⟨b4, e1, hc j _ (by simp [ints, List.getD, hj])⟩
        have HP := Lib.hid hP
        have Hst := Lib.hid hst
        have Hc := Lib.hid hcellsL
        clear hP hst hrow hlen hrd hcellsL hxl hxo
        go_wp2_with fail
        go_loop [10, 11] (fun s i => ∃ j : Nat, j ≤ 5 ∧ i = .int .i64 ((j : Int) + 1) ∧ s = .int .i64 (sumTo L' j)) (fun _ i => 6 - (intOf i).toNat)
        case atStart => exact ⟨0, by omega, rfl, rfl⟩
        case round =>
          obtain ⟨j, hj, rfl, rfl⟩ := hrel
          have hsl := sumTo_le L' j
          have hsl2 : sumTo L' j ≤ 500 := Nat.le_trans hsl (Nat.le_trans (Nat.mul_le_mul hj hn100) (by omega))
          clear hsl
          by_cases hj5 : j < 5
          · have hjI : (j : Int) + 1 ≤ 5 := by omega
            have hjI2 : decide ((j : Int) + 1 ≤ 5) = true := by simpa using hjI
            go_wp2_with fail
            go_loop [12, 13] (fun c i => ∃ m : Nat, m ≤ L'.length ∧ i = .int .i64 m ∧ c = .int .i64 (cnt (L'.take m) ((j : Int) + 1))) (fun _ i => L'.length - (intOf i).toNat)
            case atStart => exact ⟨0, by omega, rfl, rfl⟩
            case round =>
              obtain ⟨m, hm, rfl, rfl⟩ := hrel
              have hcl := cnt_le (L'.take m) ((j : Int) + 1)
              have hcl2 : cnt (L'.take m) ((j : Int) + 1) ≤ 100 := by
                have : (L'.take m).length ≤ m := List.length_take_le _ _
                omega
              clear hcl
              by_cases hml : m < L'.length
              · obtain ⟨b3, rfl, hcell⟩ := Hc.out m hml
                have hsn : cnt (L'.take (m + 1)) ((j : Int) + 1) = cnt (L'.take m) ((j : Int) + 1) + if L'.getD m 0 = (j : Int) + 1 then 1 else 0 := by
                  rw [List.take_succ_eq_append_getElem hml, cnt_snoc]
                  have e : L'.getD m 0 = L'[m] := by simp [List.getD, hml]
                  rw [e]
                by_cases h5 : L'.getD m 0 = (j : Int) + 1
                · rw [if_pos h5] at hsn
                  have Hsn := Lib.hid hsn
                  have h6 : (L'.getD m 0 == (j : Int) + 1) = true := by simpa using h5
                  generalize L'.getD m 0 = q at *
                  clear hsn h5
                  go_wp2_with fail
                  go_round
                  case rel => exact ⟨m + 1, by omega, by go_num, by rw [Hsn.out]; go_num⟩
                  case measure => simp [intOf]; omega
                · rw [if_neg h5] at hsn
                  have Hsn := Lib.hid hsn
                  have h6 : (L'.getD m 0 == (j : Int) + 1) = false := by simpa using h5
                  generalize L'.getD m 0 = q at *
                  clear hsn h5
                  go_wp2_with fail
                  go_round
                  case rel => exact ⟨m + 1, by omega, by go_num, by rw [Hsn.out]; rfl⟩
                  case measure => simp [intOf]; omega
              · have hml2 : m = L'.length := by omega
                subst hml2
                have htk : L'.take L'.length = L' := List.take_of_length_le (Nat.le_refl _)
                rw [htk] at hcl2 ⊢
                have hcc := count_c Hst.out ((j : Int) + 1)
                have e5 : cntK L' ((j : Int) + 1) = (cnt L' ((j : Int) + 1) : Int) := by unfold cntK; rw [if_pos (by omega)]
                rw [e5] at hcc
                have hsum : sumTo L' (j + 1) = sumTo L' j + cnt L' ((j : Int) + 1) := rfl
                have Hsum := Lib.hid hsum
                generalize cnt L' ((j : Int) + 1) = c at *
                have Hcc := Lib.hid hcc
                clear hcc htk e5 hsum hml
                go_wp2_with fail
                refine Hcc.out.mono ?_
                rintro e' w2 ⟨rfl, rfl⟩
                go_wp2_with fail
                go_round
                case rel => exact ⟨j + 1, by omega, by go_num, by rw [Hsum.out]; go_num⟩
                case measure => simp [intOf]; omega
          · have hj6 : j = 5 := by omega
            subst hj6
            have hs5 := sumTo5 L' Hst.out.rng
            rw [hs5]
            have Hl := Lib.hid (slen_c Hst.out)
            have hc0 := count_c Hst.out 0
            have hc1 := count_c Hst.out (-1)
            have hc6 := count_c Hst.out 6
            have z0 : cntK L' 0 = 0 := by unfold cntK; rw [if_neg (by omega)]
            have z1 : cntK L' (-1) = 0 := by unfold cntK; rw [if_neg (by omega)]
            have z6 : cntK L' 6 = 0 := by unfold cntK; rw [if_neg (by omega)]
            rw [z0] at hc0
            rw [z1] at hc1
            rw [z6] at hc6
            have Hc0 := Lib.hid hc0
            have Hc1 := Lib.hid hc1
            have Hc6 := Lib.hid hc6
            clear hc0 hc1 hc6 z0 z1 z6 hs5 hj5 hsl2
            go_wp2_with fail
            refine Hl.out.mono ?_
            rintro e' w2 ⟨rfl, rfl⟩
            go_wp2_with fail
            refine Hc0.out.mono ?_
            rintro e' w2 ⟨rfl, rfl⟩
            go_wp2_with fail
            refine Hc1.out.mono ?_
            rintro e' w2 ⟨rfl, rfl⟩
            go_wp2_with fail
            refine Hc6.out.mono ?_
            rintro e' w2 ⟨rfl, rfl⟩
            go_wp2_with fail
            go_roundw
            case rel => exact ⟨k + 1, by omega, by omega, by go_num, L', by omega, HP.out⟩
            case measure => simp [intOf]; omega
    · obtain ⟨row, rl, hst, hrow, hfr, hrl⟩ := HP.out.ex
      have hlen : (ints L).length = L.length := by simp [ints]
      have hlm : L.length ≤ 100 := by omega
      obtain ⟨A', cap', hv⟩ := hrow.sl
      rw [hlen] at hv
      subst hv
      have hcellsL : ∀ j, j < L.length → ∃ b3, A' = some ⟨b3, 0, none⟩ ∧ b3 < wr.heap.size ∧ wr.cell? ⟨b3, j, none⟩ = some (.int .i64 (L.getD j 0)) := by
        intro j hj
        rcases hrow.form with ⟨_, h2, _⟩ | ⟨b4, cap5, h1, _, _, _, hb4, hc, _⟩
        · rw [h2] at hlen
          simp at hlen
          omega
        · injection h1 with e1
          exact ⟨b4, e1, hb4, hc j _ (by simp [ints, List.getD, hj])⟩
      have Hst := Lib.hid hst
      have Hc := Lib.hid hcellsL
      clear hst hrow hlen hcellsL hfr hrl
      have hways : (k < n ∧ decide ((k : Int) < 100) = false) ∨ ¬ k < n := by
        by_cases h1 : k < n
        · left; exact ⟨h1, by simp; omega⟩
        · exact .inr h1
      obtain ⟨wo, rfl⟩ : ∃ wo : World, wo = wr := ⟨_, rfl⟩
      obtain ⟨i0, hi, hz0, hz1, hz2⟩ := info_parts Try.int_info
      clear hlt
      rcases hways with ⟨hkn, h100⟩ | hkn
      all_goals
        go_wp2_with fail
        go_loopw [14, 15] (fun o i wr => ∃ j : Nat, j ≤ L.length ∧ i = .int .i64 j ∧ NewRow wo wr 3 o (ints (aliveTo L j)) ∧ Upd (fun _ => False) wo wr) (fun _ i _ => L.length - (intOf i).toNat)
        case atStart => exact ⟨0, by omega, rfl, ⟨none, Row.nil _ _, by simp⟩, Upd.refl _ _⟩
        case round =>
          obtain ⟨j, hj, rfl, ⟨r, hrow, hfresh⟩, hu⟩ := hrel
          have Hrow := Lib.hid hrow
          have Hfresh := Lib.hid hfresh
          have hkl := aliveTo_le L j
          have Hu := Lib.hid hu
          clear hrow hfresh hu
          by_cases hjl : j < L.length
          · obtain ⟨b3, rfl, hb3, hcell0⟩ := Hc.out j hjl
            have hcell : wr.cell? ⟨b3, j, none⟩ = some (.int .i64 (L.getD j 0)) := (Hu.out.cell hb3 (fun e => e) j).trans hcell0
            have hof : ofL L j = L.getD j 0 := by unfold ofL; rw [if_pos (by omega)]; simp
            have hofc := of_c ((Hst.out.keep Hu.out).upd (S := fun _ => False) (Upd.refl _ _).drew (fun _ _ e => e)) j
            rw [hof] at hofc
            have Hofc := Lib.hid hofc
            clear hof hofc hcell0
            by_cases h5 : L.getD j 0 = 5
            · have e1 := Lib.hid (show aliveTo L (j + 1) = aliveTo L j by rw [aliveTo_succ, if_pos h5])
              rw [h5] at hcell Hofc
              clear h5
              go_wp2_with fail
              refine wp_still (by kernel_rfl) (by kernel_rfl) ?_
              repeat still_step
              still_call (still_of Hofc.out)
              repeat still_step
              refine wpStill_nil ?_
              go_wp2_with fail
              go_roundw
              case rel => exact ⟨j + 1, by omega, by go_num, ⟨r, by rw [e1.out]; exact Hrow.out.upd (S := fun _ => False) (Upd.refl _ _).drew (fun _ _ e => e), Hfresh.out⟩, Hu.out.drew⟩
              case measure => simp [intOf]; omega
            · have e1 := Lib.hid (show aliveTo L (j + 1) = aliveTo L j ++ [(j : Int)] by rw [aliveTo_succ, if_neg h5])
              have h6 : (L.getD j 0 == 5) = false := by simpa using h5
              have h7 : (L.getD j 0 != 5) = true := by simpa using h5
              generalize L.getD j 0 = q at *
              have hil : (ints (aliveTo L j)).length = (aliveTo L j).length := by simp [ints]
              have Hil := Lib.hid hil
              have HrowD := Lib.hid (Hrow.out.upd (S := fun _ => False) (Upd.refl _ _).drew (fun _ _ e => e))
              clear h5 hil
              go_wp2_with fail
              refine wp_still (by kernel_rfl) (by kernel_rfl) ?_
              repeat still_step
              still_call (still_of Hofc.out)
              repeat still_step
              refine wpStill_nil ?_
              go_wp2_with (at_builtin; refine wpList_append_rowN rfl (.tmp 151) (.tmp 153) 25 rfl 3 i0 (.int .i64 0) 1 8 Try.underlying25 hi hz0 hz1 hz2 rfl (by decide) _ rfl r (ints (aliveTo L j)).length (ints (aliveTo L j)) ?hrw ⟨wr.heap.size, 0, none⟩ 1 1 [.int .i64 j] rfl rfl ?c1 (oneCell_one rfl) (by omega) ?c3 ?c4 ?_)
              case hrw => exact (Hrow.out.alloc _).toN
              case c1 => exact news_one wr _ _
              case c3 => rw [Hil.out]; unfold maxLen; omega
              case c4 => rw [Hil.out]; omega
              intro g cap3 w3 hrow3 hg3 hat hlt3
              go_wp2_with fail
              go_roundw
              case rel =>
                refine ⟨j + 1, by omega, by go_num, ⟨some g, ?_, ?_⟩, ((Hu.out.alloc _).drew).grown hg3 (fun k' hk' => .inr (Hfresh.out k' hk'))⟩
                · rw [e1.out]
                  have := hrow3.to1
                  simpa [ints] using this
                · intro k' hk'
                  injection hk' with hk'
                  rcases hat with e | e
                  · exact Hfresh.out k' (by rw [e, hk'])
                  · have := Hu.out.size
                    omega
              case measure => simp [intOf]; omega
          · have hjl2 : j = L.length := by omega
            subst hjl2
            clear hjl
            go_wp2_with fail
            refine (stold_c _).mono ?_
            rintro e' w3 ⟨rfl, u3⟩
            have hst3 := (Hst.out.keep Hu.out).keep u3
            have hrow3 := Hrow.out.upd u3 (fun _ _ e => e)
            go_wp2_with fail
            refine (alive_c hst3).mono ?_
            rintro e' w4 ⟨v4, rfl, ⟨r4, hrow4, _⟩, u4⟩
            obtain ⟨A4, c4, rfl, hrd4⟩ := hrow4.rdf
            obtain ⟨A5, c5, rfl, hrd5⟩ := (hrow3.upd u4 (fun _ _ e => e)).rdf
            go_wp2_with fail
            refine (ints_c hrd4 hrd5).mono ?_
            rintro e' w5 ⟨rfl, m, rfl⟩
            go_wp2_with fail
            have hof := of_c ((hst3.keep u4).upd (S := fun _ => False) ((Upd.refl _ _).drewN m) (fun _ _ e => e)) (-1)
            have z1 : ofL L (-1) = 0 := by unfold ofL; rw [if_neg (by omega)]
            rw [z1] at hof
            refine hof.mono ?_
            rintro e' w6 ⟨rfl, rfl⟩
            go_wp2_with fail
            go_ret
            exact ⟨rfl, ((((HP.out.u.tail Hu.out (fun _ e => e.elim)).tail u3 (fun _ e => e.elim)).tail u4 (fun _ e => e.elim)).drewN m).below'⟩

set_option maxRecDepth 100000 in
theorem lifted (os : Os) (started : os.Started) (H : Type) (enc : TypeId × Value → H) :
    ReturnsInHanded {} Try.checked os 3 .any (Rows.statePlaysSpec.pre6 enc Try.prog Try.f3 Rows.statePlaysRow.domain false) (Rows.statePlaysSpec.post enc Try.prog Try.f3 false true false false) := by
  refine returnsInHanded_of_change (C := Try.checked) Try.ownK started (by kernel_rfl) Try.func3
    (ChangeSpec.witness6 (enc := enc) (C := Try.checked) false ⟨#[], #[.slice none 0 0], []⟩ 8 (by kernel_rfl) (by kernel_rfl) (by kernel_rfl) (by kernel_rfl)) ?_
  intro W base args ds gs before hval0 hW hcnd _
  have hval : ∀ (j : Nat) t v, Try.f3.params[j]? = some t → args[j]? = some v → Value.okWide Try.prog W .any base t v := hval0
  have hW' := hW
  obtain ⟨p, q, hA0, hV, rfl, hfz, hnd⟩ := hW
  have hA : DataW.TrodAll enc Try.prog W 0 (fun _ => true) true Try.f3.params.toList args.toList ds p := hA0
  rw [Try.params3] at hA hval
  obtain ⟨v0, vs0, d0, ds0, p0, q0, hargs, rfl, rfl, h0, r0⟩ := trodAll_cons hA
  obtain ⟨rfl, rfl, rfl⟩ := trodAll_nil r0
  obtain rfl : args = #[v0] := by cases args; simp_all
  obtain ⟨rfl, rfl⟩ := trodVars_none hV
  obtain ⟨A, n, cap, f, rfl, hr⟩ := read_structs Try.underlying22 Try.underlying27 (by kernel_rfl) (by kernel_rfl) (by decide) (hval 0 22 v0 rfl rfl) h0
  clear hA0 hval0
  refine (walk A n cap f W hr).mono fun e W' ⟨he, hb⟩ => ?_
  subst he
  exact ⟨_, rfl, law_post Try.laidB rfl rfl rfl Try.underlying4 (by kernel_rfl) hW' hb⟩

theorem proved : Rows.StatePlaysSaid :=
  OpenClaim.holds_of_wide 3 Try.f3 rfl rfl rfl rfl rfl rfl rfl ⟨rfl, rfl, rfl, rfl, rfl⟩ rfl rfl rfl rfl rfl (by kernel_rfl) Try.func3 (by kernel_rfl)
    (of_decide_eq_true (by kernel_rfl)) (by unfold Func.isWrapper; first | (rw [if_pos (by decide +kernel)]; kernel_rfl) | (rw [if_neg (by decide +kernel)]; exact ⟨rfl, rfl⟩))
    (fun os started H enc _ => lifted os started H enc)
#print axioms proved
end Go.Proofs.Ytfcbidlpficdgaa.statePlays
