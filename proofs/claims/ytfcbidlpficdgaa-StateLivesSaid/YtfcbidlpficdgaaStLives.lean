/- 'Rows.StateLivesSaid': treadmilllaw12.StateLives returns true for any list of integers. No condition. -/
import Derived.Test.YtfcbidlpficdgaaStTold
import Derived.Test.YtfcbidlpficdgaaRead
import Derived.Test.YtfcbidlpficdgaaRegion
import Derived.Deep.DeepCutAuto
import Derived.Deep.CutBlock
namespace Go.Proofs.Ytfcbidlpficdgaa.stateLives
open Go.ChangeShapes Go.WideShapes Go.ChangeAt Go.RowKit

theorem u64_tmod (a m : Int) (hm : 0 < m) : 0 ≤ (IntKind.u64.wrap a).tmod m ∧ (IntKind.u64.wrap a).tmod m < m := by
  have h : 0 ≤ IntKind.u64.wrap a := by rw [IntKind.wrap_u64]; omega
  rw [Int.tmod_eq_emod_of_nonneg h]
  exact ⟨Int.emod_nonneg _ (by omega), Int.emod_lt_of_pos _ hm⟩
theorem u64_idx (a m : Int) (hm : 0 < m) (hm2 : m ≤ 1000) : ∃ k : Nat, wrap64 ((IntKind.u64.wrap a).tmod m) = (k : Int) ∧ (k : Int) < m := by
  obtain ⟨h1, h2⟩ := u64_tmod a m hm
  refine ⟨((IntKind.u64.wrap a).tmod m).toNat, ?_, by omega⟩
  generalize (IntKind.u64.wrap a).tmod m = x at *
  unfold wrap64
  omega
theorem aliveTo_cnt (l : List Int) : ∀ k, k ≤ l.length → (aliveTo l k).length + cnt (l.take k) 5 = k := by
  intro k
  induction k with
  | zero => intro _; rfl
  | succ k ih =>
    intro hk
    have h := ih (by omega)
    rw [aliveTo_succ, List.take_succ_eq_append_getElem (by omega), cnt_snoc]
    have e : l.getD k 0 = l[k] := by simp [List.getD, show k < l.length by omega]
    rw [e]
    by_cases h5 : l[k] = 5
    · rw [if_pos h5, if_pos h5]; omega
    · rw [if_neg h5, if_neg h5, List.length_append, List.length_singleton]; omega

def deadV (L : List Int) : Array Value := (L.map (fun x => Value.bool (x == 5))).toArray
def LivesAt (w : World) (a d : Nat) (wr : World) : Prop := ∃ row L, StAt wr a row L ∧ L.length = 3 ∧ Blk wr d 4 (deadV L) ∧ Upd (fun _ => False) w wr ∧ (∀ k, own1 a row k → w.heap.size ≤ k) ∧ w.heap.size ≤ d ∧ d ≠ a ∧ row ≠ some d

theorem deadV_set (L : List Int) (g : Nat) (t : Int) : deadV (L.set g t) = (deadV L).setIfInBounds g (.bool (t == 5)) := by
  unfold deadV
  rw [List.map_set]
  simp
theorem deadV_same (L : List Int) (g : Nat) (t x : Int) (hg : g < L.length) (hx : x = L.getD g 0) (h5 : x ≠ 5) (ht : t ≠ 5) : deadV (L.set g t) = deadV L := by
  unfold deadV
  congr 1
  rw [List.map_set]
  apply List.ext_getElem?
  intro i
  rw [List.getElem?_set]
  split
  · rename_i h
    subst h
    have e : L.getD g 0 = L[g] := by simp [List.getD, hg]
    have h6 : (x == 5) = false := by simpa using h5
    have h7 : (t == 5) = false := by simpa using ht
    rw [hx, e] at h6
    simp [hg, h6, h7]
  · rfl
theorem deadV_cell (L : List Int) (g : Nat) (x : Int) (hg : g < L.length) (hx : x = L.getD g 0) : (deadV L)[g]? = some (.bool (x == 5)) := by
  have e : L.getD g 0 = L[g] := by simp [List.getD, hg]
  rw [hx, e]
  simp [deadV, hg]

/-- One move that may not be, one that may. -/
theorem two_moves {w : World} {a : Nat} {row : Option Nat} {L : List Int} {g : Nat} {x : Int} (h : StAt w a row L) (hL : L.length = 3) (hg : g < 3) (hx : x = L.getD g 0) (h0 : x ≠ 0) (no yes : Int) (h1 : mayB x no = false) (h2 : mayB x yes = true) :
    Calls Try.prog 10 #[.pointer (some ⟨a, 0, none⟩), .int .i64 g, .int .i64 no] w fun e w1 => e = .returned (.int .i64 5) ∧
      (Calls Try.prog 10 #[.pointer (some ⟨a, 0, none⟩), .int .i64 g, .int .i64 yes] w1 fun e w2 => e = .returned (.int .i64 0) ∧ StAt w2 a row (L.set g yes) ∧ Upd (own1 a row) w w2) := by
  have hof : ofL L g = x := by unfold ofL; rw [if_pos (by omega), hx]; simp
  refine (move_no h g no (by rw [hof]; exact h0) (by rw [hof]; exact h1)).mono ?_
  rintro e w1 ⟨rfl, hb⟩
  have hs1 : StAt w1 a row L := h.upd (S := fun k => w.heap.size ≤ k) (Upd.of_below hb) (fun k hk e => by have := h.lt k hk; omega)
  refine ⟨rfl, (move_yes hs1 g yes (by rw [hof]; exact h0) (by rw [hof]; exact h2)).mono ?_⟩
  rintro e w2 ⟨rfl, hs2, hu2⟩
  refine ⟨rfl, by simpa using hs2, (Upd.of_below hb).trans hu2 (fun i hi => .inl hi)⟩

set_option maxRecDepth 100000 in
set_option maxHeartbeats 3000000 in
theorem walk (A : Option Addr) (n cap : Nat) (f : Nat → Int) (w : World) (hr : RdF w A n 1 (fun i _ => f i)) :
    Calls Try.prog 6 #[.slice A n cap] w fun e w' => e = .returned (.bool true) ∧ Below w.heap.size w w' := by
  have hmax := hr.1
  unfold maxLen at hmax
  go_enter Try.func6, Try.ntmps6
  go_wp2_with fail
  refine (snew_c _).mono ?_
  rintro e' w1 ⟨rfl, h1, u1⟩
  have ha : ∃ a, a = w.heap.size := ⟨_, rfl⟩
  obtain ⟨a, ha⟩ := ha
  rw [← ha] at h1 ⊢
  have Ha := Lib.hid ha
  clear ha
  by_cases h60 : 60 < n
  · have hI : 60 < (n : Int) := by omega
    clear h60
    go_wp2_with fail
    refine (stold_c _).mono ?_
    rintro e' w3 ⟨rfl, u3⟩
    go_wp2_with fail
    go_ret
    exact ⟨rfl, (u1.tail u3 (fun _ h => h.elim)).below'⟩
  · have hI : (n : Int) ≤ 60 := by omega
    have hI2 : decide (60 < (n : Int)) = false := by simpa using hI
    go_wp2_with fail
    go_loopw [4] (fun i wr => ∃ k : Nat, k ≤ 3 ∧ i = .int .i64 k ∧ ∃ row, StAt wr a row (List.replicate k 1) ∧ Upd (fun _ => False) w wr ∧ ∀ j, own1 a row j → w.heap.size ≤ j) (fun i _ => 3 - (intOf i).toNat)
    case atStart =>
      exact ⟨0, by omega, rfl, none, h1, u1, by
        rintro k (rfl | hk)
        · exact Nat.le_of_eq Ha.out.symm
        · cases hk⟩
    case round =>
      obtain ⟨k, hk, rfl, row, hst, hu, hfr⟩ := hrel
      have Hfr := Lib.hid hfr
      clear hfr h1 u1
      by_cases hlt : k < 3
      · have hI3 : (k : Int) < 3 := by omega
        have hlen : (List.replicate k (1 : Int)).length = k := by simp
        have hsp := spawn_c hst (by rw [hlen]; omega)
        rw [hlen] at hsp
        have Hsp := Lib.hid hsp
        clear hsp hlen
        go_wp2_with fail
        refine Hsp.out.mono ?_
        rintro e' w2 ⟨rfl, row2, h2, u2, hr2⟩
        have hs := hu.size
        have u02 := hu.tail u2 Hfr.out
        have hfr2 : ∀ j, own1 a row2 j → w.heap.size ≤ j := by
          rintro j (rfl | hj)
          · exact Hfr.out j (.inl rfl)
          · rcases hr2 j hj with h | h
            · exact Hfr.out j (.inr h)
            · omega
        have Hfr2 := Lib.hid hfr2
        clear hfr2 hr2
        go_wp2_with fail
        go_roundw
        case rel =>
          refine ⟨k + 1, by omega, by go_num, row2, ?_, u02, Hfr2.out⟩
          rw [List.replicate_succ']
          exact h2
        case measure => simp [intOf]; omega
      · have hk3 : k = 3 := by omega
        subst hk3
        clear hlt
        have hmk : ∀ W : World, (Instr.makeSlice 39 (.int .i64 3) (.int .i64 3)).run Try.prog W = .ok (.slice (some ⟨W.heap.size, 0, none⟩) 3 3) (W.alloc (.cells #[.bool false, .bool false, .bool false] 4)) := fun _ => by kernel_rfl
        have Hst := Lib.hid hst
        have Hu := Lib.hid hu
        clear hst hu
        go_wp2_with fail
        obtain ⟨d, hd⟩ : ∃ d, d = wr.heap.size := ⟨_, rfl⟩
        rw [← hd]
        have hsz := Hu.out.size
        have hal := Hst.out.lt
        have L0 : LivesAt w a d (wr.alloc (.cells #[.bool false, .bool false, .bool false] 4)) := by
          refine ⟨row, _, Hst.out.upd (S := fun _ => False) ((Upd.refl _ _).alloc _) (fun _ _ e => e), rfl, ?_, Hu.out.alloc _, Hfr.out, by omega, ?_, ?_⟩
          · exact Blk.new' _ _ _ hd
          · intro e
            have := hal a (.inl rfl)
            omega
          · intro e
            have := hal d (.inr e)
            omega
        have HL0 := Lib.hid L0
        clear hmk L0 hd hal hsz Hst Hu Hfr
        go_loopw [8] (fun i wr => ∃ k : Nat, k ≤ n ∧ i = .int .i64 k ∧ LivesAt w a d wr) (fun i _ => n - (intOf i).toNat)
        case atStart => exact ⟨0, by omega, rfl, HL0.out⟩
        case round =>
          clear HL0
          obtain ⟨k, hk, rfl, row, L, hst, hL, hdead, hu, hfr, hwd, hda, hrd⟩ := hrel
          by_cases hlt : k < n
          · obtain ⟨b, off, rfl, hbl, hcells⟩ := (hr.upd hu (fun _ e => e.elim)).2 (by omega)
            have hcell : wr.cell? ⟨b, off + k, none⟩ = some (.int .i64 (f k)) := by
              have := hcells k hlt 0 (by omega)
              simpa using this
            obtain ⟨g, hg, hg3⟩ := u64_idx (f k) 3 (by omega) (by omega)
            obtain ⟨q, hq, hq4⟩ := u64_idx (wrap64 ((f k).tdiv 3)) 4 (by omega) (by omega)
            have hof : ofL L g = L.getD g 0 := by unfold ofL; rw [if_pos (by omega)]; simp
            obtain ⟨x, hx⟩ : ∃ x, x = L.getD g 0 := ⟨_, rfl⟩
            have hrng : 1 ≤ x ∧ x ≤ 5 := by
              have hm : x ∈ L := by
                rw [hx]
                have : g < L.length := by omega
                simp [List.getD, this]
              exact hst.rng x hm
            have hof1 := of_c hst g
            rw [hof, ← hx] at hof1
            have Hof := Lib.hid hof1
            have Hx := Lib.hid hx
            have Hg := Lib.hid hg
            have Hq := Lib.hid hq
            have HL := Lib.hid hL
            have Hst := Lib.hid hst
            have Hofe := Lib.hid hof
            have Hdead := Lib.hid hdead
            have Hu := Lib.hid hu
            have Hfr := Lib.hid hfr
            clear hcells hof hx hg hq hL hof1 hst hdead hu hfr
            go_wp2_with fail
            rw [Hg.out]
            refine Hof.out.mono ?_
            rintro e' w2 ⟨rfl, rfl⟩
            go_upto_block 4 with (fail)
            have hdc : wr.cell? ⟨d, g, none⟩ = some (.bool (x == 5)) := (Hdead.out.cell g).trans (deadV_cell L g x (by rw [HL.out]; omega) Hx.out)
            have hdf := Hdead.out.frozen g
            go_cut [] (fun wc => LivesAt w a d wc)
            case first =>
              have hcs : x = 1 ∨ x = 2 ∨ x = 3 ∨ x = 4 ∨ x = 5 := by omega
              have hg' : g < 3 := by omega
              rcases hcs with rfl | rfl | rfl | rfl | rfl
              · have hm := two_moves Hst.out HL.out hg' Hx.out (by decide) 3 2 (by decide) (by decide)
                have Hm := Lib.hid hm
                clear hm
                go_wp2_with fail
                refine Hm.out.mono ?_
                rintro e' w2 ⟨rfl, hm2⟩
                have Hm2 := Lib.hid hm2
                clear hm2
                go_wp2_with fail
                refine Hm2.out.mono ?_
                rintro e' w3 ⟨rfl, h3, u3⟩
                go_wp2_with fail
                go_meet
                case rel =>
                  refine ⟨row, _, h3, by simpa using HL.out, ?_, Hu.out.tail u3 Hfr.out, Hfr.out, hwd, hda, hrd⟩
                  rw [deadV_same L g 2 1 (by rw [HL.out]; omega) Hx.out (by decide) (by decide)]
                  exact Hdead.out.upd u3 (fun h => h.elim (fun e => hda e) (fun e => hrd e))
              · have hqq : q = 0 ∨ q = 1 ∨ q = 2 ∨ q = 3 := by omega
                obtain ⟨nx, hto⟩ : ∃ nx : Int, nx = [1, 3, 4, 5].getD q 0 := ⟨_, rfl⟩
                have hmb : mayB 2 nx = true := by rcases hqq with rfl | rfl | rfl | rfl <;> (rw [hto]; decide)
                have hlist : ∀ W : World, (W.alloc (.cells #[.int .i64 1, .int .i64 3, .int .i64 4, .int .i64 5] 3)).cell? ⟨W.heap.size, q, none⟩ = some (.int .i64 nx) := by
                  intro W
                  rw [(Blk.new W 3 #[.int .i64 1, .int .i64 3, .int .i64 4, .int .i64 5]).cell q, hto]
                  rcases hqq with rfl | rfl | rfl | rfl <;> rfl
                have hm := fun W : World => fun (h : StAt W a row L) => two_moves h HL.out hg' Hx.out (by decide) 2 nx (by decide) hmb
                have hst2 : StAt (wr.alloc (.cells #[.int .i64 1, .int .i64 3, .int .i64 4, .int .i64 5] 3)) a row L := Hst.out.keep ((Upd.refl _ _).alloc _)
                have hm1 := hm _ hst2
                have hdl : d < wr.heap.size := Hdead.out.lt
                have hq' : wrap64 ((IntKind.u64.wrap (wrap64 ((f k).tdiv 3))).tmod 4) = (q : Int) := Hq.out
                have Hm := Lib.hid hm1
                have Hto := Lib.hid hto
                have Hmb := Lib.hid hmb
                have hq4' : (q : Int) < 4 := by omega
                have hq0 : (0 : Int) ≤ (q : Int) := by omega
                have hq4n : q < 4 := by omega
                have hl1 := hlist wr
                clear hm hm1 hst2 hto hqq hmb hlist
                go_wp2_with fail
                refine Hm.out.mono ?_
                rintro e' w2 ⟨rfl, hm2⟩
                have Hm2 := Lib.hid hm2
                clear hm2
                go_wp2_with fail
                refine Hm2.out.mono ?_
                rintro e' w3 ⟨rfl, h3, u3⟩
                have u30 : Upd (own1 a row) wr w3 := ((Upd.refl _ _).alloc _).trans u3 (fun i hi => .inl hi)
                have hd3 : Blk w3 d 4 (deadV L) := Hdead.out.upd u30 (fun h => h.elim (fun e => hda e) (fun e => hrd e))
                have hdc3 : w3.cell? ⟨d, g, none⟩ = some (.bool (2 == 5)) := (hd3.cell g).trans (deadV_cell L g 2 (by rw [HL.out]; omega) Hx.out)
                have hdf3 := hd3.frozen g
                have Hd3 := Lib.hid hd3
                have U30 := Lib.hid u30
                clear hd3 u30 hdc hdf
                go_wp2_with fail
                go_meet
                case rel =>
                  have hds := Hd3.out.set_ g (.bool (nx == 5))
                  rw [← deadV_set] at hds
                  have ud : Upd (fun k => k = d) w3 (w3.setCell ⟨d, g, none⟩ (.bool (nx == 5))) := (Upd.refl (fun k => k = d) w3).setCell (p := ⟨d, g, none⟩) (.inl rfl) _
                  refine ⟨row, _, h3.upd ud (fun k hk e => ?_), by simpa using HL.out, hds, (Hu.out.tail U30.out Hfr.out).tail ud (fun i e => e ▸ hwd), Hfr.out, hwd, hda, hrd⟩
                  rcases hk with hk | hk
                  · exact hda (e ▸ hk)
                  · exact hrd (e ▸ hk)
              · have hm := two_moves Hst.out HL.out hg' Hx.out (by decide) 5 1 (by decide) (by decide)
                have Hm := Lib.hid hm
                clear hm
                go_wp2_with fail
                refine Hm.out.mono ?_
                rintro e' w2 ⟨rfl, hm2⟩
                have Hm2 := Lib.hid hm2
                clear hm2
                go_wp2_with fail
                refine Hm2.out.mono ?_
                rintro e' w3 ⟨rfl, h3, u3⟩
                go_wp2_with fail
                go_meet
                case rel =>
                  refine ⟨row, _, h3, by simpa using HL.out, ?_, Hu.out.tail u3 Hfr.out, Hfr.out, hwd, hda, hrd⟩
                  rw [deadV_same L g 1 3 (by rw [HL.out]; omega) Hx.out (by decide) (by decide)]
                  exact Hdead.out.upd u3 (fun h => h.elim (fun e => hda e) (fun e => hrd e))
              · have hm := two_moves Hst.out HL.out hg' Hx.out (by decide) 5 1 (by decide) (by decide)
                have Hm := Lib.hid hm
                clear hm
                go_wp2_with fail
                refine Hm.out.mono ?_
                rintro e' w2 ⟨rfl, hm2⟩
                have Hm2 := Lib.hid hm2
                clear hm2
                go_wp2_with fail
                refine Hm2.out.mono ?_
                rintro e' w3 ⟨rfl, h3, u3⟩
                go_wp2_with fail
                go_meet
                case rel =>
                  refine ⟨row, _, h3, by simpa using HL.out, ?_, Hu.out.tail u3 Hfr.out, Hfr.out, hwd, hda, hrd⟩
                  rw [deadV_same L g 1 4 (by rw [HL.out]; omega) Hx.out (by decide) (by decide)]
                  exact Hdead.out.upd u3 (fun h => h.elim (fun e => hda e) (fun e => hrd e))
              · have hof5 : ofL L g ≠ 0 := by rw [Hofe.out, ← Hx.out]; decide
                have hm1 := move_no Hst.out g 1 hof5 (by rw [Hofe.out, ← Hx.out]; decide)
                have Hm1 := Lib.hid hm1
                clear hm1
                go_wp2_with fail
                refine Hm1.out.mono ?_
                rintro e' w2 ⟨rfl, hb2⟩
                have hs2 : StAt w2 a row L := Hst.out.upd (S := fun k => wr.heap.size ≤ k) (Upd.of_below hb2) (fun k hk e => by have := Hst.out.lt k hk; omega)
                have Hm2 := Lib.hid (move_no hs2 g 5 hof5 (by rw [Hofe.out, ← Hx.out]; decide))
                go_wp2_with fail
                refine Hm2.out.mono ?_
                rintro e' w3 ⟨rfl, hb3⟩
                go_wp2_with fail
                go_meet
                case rel =>
                  have u3 : Upd (fun _ => False) wr w3 := (Upd.of_below (S := fun _ => False) hb2).trans (Upd.of_below (S := fun _ => False) hb3) (fun _ h => .inl h)
                  exact ⟨row, L, Hst.out.keep u3, HL.out, Hdead.out.upd u3 (fun h => h), Hu.out.tail u3 (fun _ h => h.elim), Hfr.out, hwd, hda, hrd⟩
            case rest =>
              clear Hof Hx Hg Hq HL Hst Hofe Hdead Hu Hfr hdc hdf hcell hr hwd hda hrd
              obtain ⟨row, L, hst, hL, hdead, hu, hfr, hwd, hda, hrd⟩ := hcut
              have hcell : ∀ j : Nat, j < 3 → wc.cell? ⟨d, j, none⟩ = some (.bool (L.getD j 0 == 5)) := fun j hj => (hdead.cell j).trans (deadV_cell L j _ (by omega) rfl)
              have Hst := Lib.hid hst
              have Hdead := Lib.hid hdead
              have Hu := Lib.hid hu
              have Hfr := Lib.hid hfr
              have HL := Lib.hid hL
              have Hcell := Lib.hid hcell
              clear hst hdead hu hfr hL hcell
              go_wp2_with fail
              go_loop [11, 12] (fun c i => ∃ j : Nat, j ≤ 3 ∧ i = .int .i64 j ∧ c = .int .i64 (cnt (L.take j) 5)) (fun _ i => 3 - (intOf i).toNat)
              case atStart => exact ⟨0, by omega, rfl, rfl⟩
              case round =>
                obtain ⟨j, hj, rfl, rfl⟩ := hrel
                have hcl := cnt_le (L.take j) 5
                have hcl2 : cnt (L.take j) 5 ≤ 3 := by
                  have : (L.take j).length ≤ j := List.length_take_le _ _
                  omega
                by_cases hj3 : j < 3
                · have hjI : (j : Int) < 3 := by omega
                  have hc := Hcell.out j hj3
                  have hlt2 : j < L.length := by rw [HL.out]; omega
                  have hsn : cnt (L.take (j + 1)) 5 = cnt (L.take j) 5 + if L.getD j 0 = 5 then 1 else 0 := by
                    rw [List.take_succ_eq_append_getElem hlt2, cnt_snoc]
                    have e : L.getD j 0 = L[j] := by simp [List.getD, hlt2]
                    rw [e]
                  by_cases h5 : L.getD j 0 = 5
                  · rw [if_pos h5] at hsn
                    have Hsn := Lib.hid hsn
                    have h6 : (L.getD j 0 == 5) = true := by simpa using h5
                    rw [h6] at hc
                    clear hsn h5 h6
                    go_wp2_with fail
                    go_round
                    case rel => exact ⟨j + 1, by omega, by go_num, by rw [Hsn.out]; go_num⟩
                    case measure => simp [intOf]; omega
                  · rw [if_neg h5] at hsn
                    have Hsn := Lib.hid hsn
                    have h6 : (L.getD j 0 == 5) = false := by simpa using h5
                    rw [h6] at hc
                    clear hsn h5 h6
                    go_wp2_with fail
                    go_round
                    case rel => exact ⟨j + 1, by omega, by go_num, by rw [Hsn.out]; rfl⟩
                    case measure => simp [intOf]; omega
                · have hj4 : j = 3 := by omega
                  subst hj4
                  have htk : L.take 3 = L := List.take_of_length_le (by rw [HL.out]; omega)
                  rw [htk]
                  have hcl3 : cnt L 5 ≤ 3 := by rw [htk] at hcl2; exact hcl2
                  obtain ⟨c, hc⟩ : ∃ c, c = cnt L 5 := ⟨_, rfl⟩
                  have hcnt := count_c Hst.out 5
                  have e5 : cntK L 5 = (c : Int) := by unfold cntK; rw [if_pos (by omega), hc]
                  have hal := aliveTo_cnt L L.length (Nat.le_refl _)
                  rw [List.take_of_length_le (Nat.le_refl _), HL.out] at hal
                  rw [← hc] at hcl3 hal ⊢
                  rw [e5] at hcnt
                  have Hcnt := Lib.hid hcnt
                  have hal2 : (ints (alive L)).length = 3 - c := by
                    unfold alive ints
                    rw [List.length_map, HL.out]
                    omega
                  have Hal2 := Lib.hid hal2
                  have Halv := Lib.hid (alive_c Hst.out)
                  have hlen := slen_c Hst.out
                  clear hcl hcl2 hj3 htk hc hcnt e5 hal hal2 hlen
                  go_wp2_with fail
                  refine Hcnt.out.mono ?_
                  rintro e' w2 ⟨rfl, rfl⟩
                  go_wp2_with fail
                  refine Halv.out.mono ?_
                  rintro e' w3 ⟨v, rfl, ⟨r, hrow, _⟩, u3⟩
                  obtain ⟨A', cap', rfl⟩ := hrow.sl
                  rw [Hal2.out]
                  have hlen := slen_c (Hst.out.keep u3)
                  rw [HL.out] at hlen
                  have Hlen := Lib.hid hlen
                  have hsub : ((3 - c : Nat) : Int) = 3 - (c : Int) := by omega
                  clear hlen
                  go_wp2_with fail
                  refine Hlen.out.mono ?_
                  rintro e' w4 ⟨rfl, rfl⟩
                  go_wp2_with fail
                  go_roundw
                  case rel => (repeat apply Exists.intro); exact ⟨⟨k + 1, by omega, by go_num, row, L, Hst.out.keep u3, HL.out, Hdead.out.upd u3 (fun h => h), Hu.out.tail u3 (fun _ h => h.elim), Hfr.out, hwd, hda, hrd⟩, rfl⟩
                  case measure => simp [intOf]; omega
          · have hnk : k = n := by omega
            subst hnk
            clear hlt
            go_wp2_with fail
            refine (stold_c _).mono ?_
            rintro e' w3 ⟨rfl, u3⟩
            go_wp2_with fail
            go_ret
            exact ⟨rfl, (hu.tail u3 (fun _ h => h.elim)).below'⟩

set_option maxRecDepth 100000 in
theorem lifted (os : Os) (started : os.Started) (H : Type) (enc : TypeId × Value → H) :
    ReturnsInHanded {} Try.checked os 6 .any (Rows.stateLivesSpec.pre6 enc Try.prog Try.f6 Rows.stateLivesRow.domain false) (Rows.stateLivesSpec.post enc Try.prog Try.f6 false true false false) := by
  refine returnsInHanded_of_change (C := Try.checked) Try.ownK started (by kernel_rfl) Try.func6
    (ChangeSpec.witness6 (enc := enc) (C := Try.checked) false ⟨#[], #[.slice none 0 0], []⟩ 8 (by kernel_rfl) (by kernel_rfl) (by kernel_rfl) (by kernel_rfl)) ?_
  intro W base args ds gs before hval0 hW hcnd _
  have hval : ∀ (j : Nat) t v, Try.f6.params[j]? = some t → args[j]? = some v → Value.okWide Try.prog W .any base t v := hval0
  have hW' := hW
  obtain ⟨p, q, hA0, hV, rfl, hfz, hnd⟩ := hW
  have hA : DataW.TrodAll enc Try.prog W 0 (fun _ => true) true Try.f6.params.toList args.toList ds p := hA0
  rw [Try.params6] at hA hval
  obtain ⟨v0, vs0, d0, ds0, p0, q0, hargs, rfl, rfl, h0, r0⟩ := trodAll_cons hA
  obtain ⟨rfl, rfl, rfl⟩ := trodAll_nil r0
  obtain rfl : args = #[v0] := by cases args; simp_all
  obtain ⟨rfl, rfl⟩ := trodVars_none hV
  obtain ⟨A, n, cap, f, rfl, hr⟩ := read_ints Try.underlying25 Try.underlying3 (by kernel_rfl) (hval 0 25 v0 rfl rfl) h0
  clear hA0 hval0
  refine (walk A n cap f W hr).mono fun e W' ⟨he, hb⟩ => ?_
  subst he
  exact ⟨_, rfl, law_post Try.laidB rfl rfl rfl Try.underlying4 (by kernel_rfl) hW' hb⟩

theorem proved : Rows.StateLivesSaid :=
  OpenClaim.holds_of_wide 6 Try.f6 rfl rfl rfl rfl rfl rfl rfl ⟨rfl, rfl, rfl, rfl, rfl⟩ rfl rfl rfl rfl rfl (by kernel_rfl) Try.func6 (by kernel_rfl)
    (of_decide_eq_true (by kernel_rfl)) (by unfold Func.isWrapper; first | (rw [if_pos (by decide +kernel)]; kernel_rfl) | (rw [if_neg (by decide +kernel)]; exact ⟨rfl, rfl⟩))
    (fun os started H enc _ => lifted os started H enc)
#print axioms proved
end Go.Proofs.Ytfcbidlpficdgaa.stateLives
