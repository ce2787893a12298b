/- Package code: May. -/
import Derived.Test.YtndldoamadmphaaCode2
namespace Go.Proofs.Ytndldoamadmphaa
open Go.RowKit
def codeOK (globs : Int) (nf : Nat) (l : List In) : Prop := (1 ≤ l.length ∧ l.length ≤ 64) ∧ ∀ i ∈ l, instOK globs nf l.length i
def progOK (globs : Int) (funcs : List (List In)) : Prop := (1 ≤ funcs.length ∧ funcs.length ≤ 16) ∧ (0 ≤ globs ∧ globs ≤ 32) ∧ ∀ l ∈ funcs, codeOK globs funcs.length l
def MayPost (globs : Int) (funcs : List (List In)) (w : World) (e : Ending) (w' : World) : Prop := ∃ r : Int, e = .returned (.int .i64 r) ∧ (r = 0 ↔ progOK globs funcs) ∧ Upd (fun _ => False) w w'
/-- The first j functions are of a length that may be; all their instructions, and the first t of the next one. -/
def lensOK (funcs : List (List In)) (j : Nat) : Prop := ∀ t, t < j → 1 ≤ (funcs.getD t []).length ∧ (funcs.getD t []).length ≤ 64
def instsOK (globs : Int) (funcs : List (List In)) (j : Nat) : Prop := ∀ t, t < j → ∀ i ∈ funcs.getD t [], instOK globs funcs.length (funcs.getD t []).length i
def firstOK (globs : Int) (nf : Nat) (l : List In) (t : Nat) : Prop := ∀ s, s < t → instOK globs nf l.length (l.getD s In0)
section
variable {w : World} {c : Col} {pv : Value} {globs : Int} {funcs : List (List In)}
theorem ProgAt.len_ (h : ProgAt w c pv funcs) : ∃ A cap, pv = .slice A funcs.length cap ∧ funcs.length ≤ 9223372036854775807 := by
  obtain ⟨A, cap, hv, hm, _⟩ := h
  unfold maxLen at hm
  exact ⟨A, cap, hv, by omega⟩
set_option maxRecDepth 100000 in
set_option maxHeartbeats 2000000 in
theorem may_head (h : ProgAt w c pv funcs) (hn : ¬ ((1 ≤ funcs.length ∧ funcs.length ≤ 16) ∧ (0 ≤ globs ∧ globs ≤ 32))) :
    Calls Try.prog 34 #[.agg #[.int .i64 globs, pv]] w (MayPost globs funcs w) := by
  have hf : ∀ r : Int, r ≠ 0 → (r = 0 ↔ progOK globs funcs) := fun r hr => ⟨fun e => absurd e hr, fun e => absurd ⟨e.1, e.2.1⟩ hn⟩
  obtain ⟨A, cap, rfl, hl⟩ := h.len_
  obtain ⟨N, hN⟩ : ∃ N, N = funcs.length := ⟨_, rfl⟩
  have hfin : ∀ o1, Upd (fun _ => False) w (w.alloc o1) := fun o1 => (Upd.refl _ _).alloc _
  have HF := Lib.hid hf
  have HU := Lib.hid hfin
  rw [← hN] at hn hl ⊢
  clear h hf hfin hN
  by_cases h1 : N < 1
  · obtain rfl : N = 0 := by omega
    clear hn hl h1
    go_enter Try.func34, Try.ntmps34
    go_wp2_with fail
    go_ret
    exact ⟨1, rfl, HF.out 1 (by decide), HU.out _⟩
  by_cases h2 : 16 < N
  · have h1I : (1 : Int) ≤ N := by omega
    have h2I : (16 : Int) < N := by omega
    clear hn h1 h2
    go_enter Try.func34, Try.ntmps34
    go_wp2_with fail
    go_ret
    exact ⟨1, rfl, HF.out 1 (by decide), HU.out _⟩
  by_cases h3 : globs < 0
  · have h1I : (1 : Int) ≤ N := by omega
    have h2I : (N : Int) ≤ 16 := by omega
    clear hn h1 h2
    go_enter Try.func34, Try.ntmps34
    go_wp2_with fail
    go_ret
    exact ⟨1, rfl, HF.out 1 (by decide), HU.out _⟩
  · have h4 : 32 < globs := by omega
    have h5 : 0 ≤ globs := by omega
    have h1I : (1 : Int) ≤ N := by omega
    have h2I : (N : Int) ≤ 16 := by omega
    clear hn h1 h2 h3
    go_enter Try.func34, Try.ntmps34
    go_wp2_with fail
    go_ret
    exact ⟨1, rfl, HF.out 1 (by decide), HU.out _⟩
/-- Where a function's text stands. -/
theorem ProgAt.at_ (h : ProgAt w c pv funcs) {j : Nat} (hj : j < funcs.length) : ∃ b off cap u, pv = .slice (some ⟨b, off, none⟩) funcs.length cap ∧ b < w.heap.size ∧ w.cell? ⟨b, off + j, none⟩ = some u ∧ CodeAt w c u (funcs.getD j []) := by
  obtain ⟨A, cap, hv, _, hb⟩ := h
  obtain ⟨b, off, rfl, hlt, h8, hx⟩ := hb (by omega)
  obtain ⟨u, h1, h2⟩ := hx j (funcs.getD j []) (by simp [List.getD, hj])
  exact ⟨b, off, cap, u, hv, hlt, h1, h2⟩
theorem CodeAt.len_ {u : Value} {l : List In} (h : CodeAt w c u l) : ∃ A cap, u = .slice A l.length cap ∧ l.length ≤ 9223372036854775807 := by
  obtain ⟨A, cap, hv, hm, _⟩ := h
  unfold maxLen at hm
  exact ⟨A, cap, hv, by omega⟩
theorem CodeAt.at_ {u : Value} {l : List In} (h : CodeAt w c u l) {j : Nat} (hj : j < l.length) : ∃ b off cap, u = .slice (some ⟨b, off, none⟩) l.length cap ∧ b < w.heap.size ∧
    w.cell? ⟨b, off + j * 4, none⟩ = some (.int .i64 (l.getD j In0).op) ∧ w.cell? ⟨b, off + j * 4 + 1, none⟩ = some (.int .i64 (l.getD j In0).a) ∧ w.cell? ⟨b, off + j * 4 + 2, none⟩ = some (.int .i64 (l.getD j In0).b) ∧ w.cell? ⟨b, off + j * 4 + 3, none⟩ = some (.int .i64 (l.getD j In0).c) := by
  obtain ⟨A, cap, hv, _, hb⟩ := h
  obtain ⟨b, off, rfl, hlt, _, hx⟩ := hb (by omega)
  exact ⟨b, off, cap, hv, hlt, hx j (l.getD j In0) (by simp [List.getD, hj])⟩
set_option maxRecDepth 100000 in
set_option maxHeartbeats 2000000 in
theorem may_body (h : ProgAt w c pv funcs) (h1 : 1 ≤ funcs.length) (h2 : funcs.length ≤ 16) (h3 : 0 ≤ globs) (h4 : globs ≤ 32) :
    Calls Try.prog 34 #[.agg #[.int .i64 globs, pv]] w (MayPost globs funcs w) := by
  have hl := h.len_.choose_spec.choose_spec.2
  obtain ⟨b, off, cap, u0, hpv, hblt, _, _⟩ := h.at_ (j := 0) (by omega)
  have H := Lib.hid h
  have HPV := Lib.hid hpv
  have h1I : (1 : Int) ≤ funcs.length := by omega
  have h2I : (funcs.length : Int) ≤ 16 := by omega
  have d1 : decide ((funcs.length : Int) < 1) = false := by simp; omega
  have d2 : decide ((16 : Int) < (funcs.length : Int)) = false := by simp; omega
  have d3 : decide (globs < 0) = false := by simp; omega
  have d4 : decide (32 < globs) = false := by simp; omega
  obtain ⟨W, hW⟩ : ∃ W, W = w.alloc (.cells #[.int .i64 globs, .slice (some ⟨b, off, none⟩) funcs.length cap] 24) := ⟨_, rfl⟩
  have bp : Blk W w.heap.size 24 #[.int .i64 globs, .slice (some ⟨b, off, none⟩) funcs.length cap] := by rw [hW]; exact Blk.new _ _ _
  have hwW : Upd (fun _ => False) w W := by rw [hW]; exact (Upd.refl _ _).alloc _
  rw [hpv]
  have HBP := Lib.hid bp
  have HWW := Lib.hid hwW
  have HH : Hid (ProgAt W c pv funcs) := Lib.hid (h.frame hwW (Keep.refl _ _) (fun _ e => e.elim))
  clear h hpv bp hwW
  go_enter Try.func34, Try.ntmps34
  go_wp2_with fail
  rw [← hW]
  clear hW
  go_loop [33] (fun v => ∃ j : Nat, j ≤ funcs.length ∧ v = .int .i64 j ∧ lensOK funcs j) (fun v => funcs.length - (intOf v).toNat)
  case atStart => exact ⟨0, by omega, rfl, fun t ht => absurd ht (by omega)⟩
  case round =>
    obtain ⟨j, hj, rfl, hb⟩ := hrel
    have HB := Lib.hid hb
    clear hb
    by_cases hlt : j < funcs.length
    · obtain ⟨b', off', cap', u, e1, hbl, hcu, hcode⟩ := HH.out.at_ hlt
      rw [HPV.out] at e1
      injection e1 with eA _ eC
      injection eA with eA
      injection eA with eb eo
      subst eb
      subst eo
      subst eC
      obtain ⟨A2, cap2, hu, hl2⟩ := hcode.len_
      obtain ⟨N, hN⟩ : ∃ N, N = (funcs.getD j []).length := ⟨_, rfl⟩
      rw [← hN] at hu hl2
      rw [hu] at hcu
      have hltI : (j : Int) < (funcs.length : Int) := by omega
      have HN := Lib.hid hN
      have hno : ¬ (1 ≤ N ∧ N ≤ 64) → ¬ progOK globs funcs := fun hc hp => hc (by rw [hN]; exact (hp.2.2 (funcs.getD j []) (by rw [List.getD, List.getElem?_eq_getElem hlt]; exact List.getElem_mem hlt)).1)
      have HNO := Lib.hid hno
      clear hcode hu hN hno
      by_cases hn1 : N < 1
      · obtain rfl : N = 0 := by omega
        clear hn1 hl2
        go_wp2_with fail
        go_ret
        exact ⟨1, rfl, ⟨fun e => absurd e (by decide), fun e => absurd e (HNO.out (by omega))⟩, HWW.out⟩
      by_cases hn2 : 64 < N
      · have hn1I : (1 : Int) ≤ N := by omega
        have hn2I : (64 : Int) < N := by omega
        clear hn1 hl2
        go_wp2_with fail
        go_ret
        exact ⟨1, rfl, ⟨fun e => absurd e (by decide), fun e => absurd e (HNO.out (by omega))⟩, HWW.out⟩
      have hn1I : (1 : Int) ≤ N := by omega
      have hn2I : (N : Int) ≤ 64 := by omega
      go_wp2_with fail
      go_round
      case rel =>
        refine ⟨j + 1, by omega, by go_num, fun t ht => ?_⟩
        by_cases e : t = j
        · subst e
          rw [← HN.out]
          omega
        · exact HB.out t (by omega)
      case measure => simp [intOf]; omega
    · obtain rfl : j = funcs.length := by omega
      have HL := Lib.hid HB.out
      have hltI : ¬ (funcs.length : Int) < (funcs.length : Int) := by omega
      have p0 : W.cell? ⟨w.heap.size, 0, none⟩ = some (.int .i64 globs) := HBP.out.cell 0
      have p1 : W.cell? ⟨w.heap.size, 1, none⟩ = some (.slice (some ⟨b, off, none⟩) funcs.length cap) := HBP.out.cell 1
      have lp := HBP.out.lt
      clear HB hltI hlt
      go_wp2_with fail
      go_loopw [5, 49] (fun n v wr => ∃ j : Nat, j ≤ funcs.length ∧ v = .int .i64 j ∧ ∃ nn : Int, n = .int .i64 nn ∧ 1 ≤ nn ∧ nn ≤ 1 + 64 * j ∧ Upd (fun _ => False) W wr ∧ instsOK globs funcs j) (fun _ v _ => funcs.length - (intOf v).toNat)
      case atStart => exact ⟨0, by omega, rfl, 1, rfl, by omega, by omega, Upd.refl _ _, fun t ht => absurd ht (by omega)⟩
      case round =>
        obtain ⟨j, hj, rfl, nn, rfl, hn1, hn2, hur, hb⟩ := hrel
        have HUR := Lib.hid hur
        have HB := Lib.hid hb
        clear hur hb p0 p1 lp
        by_cases hlt : j < funcs.length
        · obtain ⟨b', off', cap', u, e1, hbl, hcu, hcode⟩ := (HH.out.frame HUR.out (Keep.refl _ _) (fun _ e => e.elim)).at_ hlt
          rw [HPV.out] at e1
          injection e1 with eA _ eC
          injection eA with eA
          injection eA with eb eo
          subst eb
          subst eo
          subst eC
          obtain ⟨hN1, hN2⟩ := HL.out j hlt
          obtain ⟨l, hl'⟩ : ∃ l, l = funcs.getD j [] := ⟨_, rfl⟩
          rw [← hl'] at hcode hN1 hN2
          obtain ⟨b2, off2, cap2, hu, _, _⟩ := hcode.at_ (j := 0) (by omega)
          rw [hu] at hcu
          have hltI : (j : Int) < (funcs.length : Int) := by omega
          have hN1I : (1 : Int) ≤ l.length := by omega
          have hN2I : (l.length : Int) ≤ 64 := by omega
          have HC := Lib.hid hcode
          have HUU := Lib.hid hu
          have HLL := Lib.hid hl'
          clear hcode hu hl'
          go_wp2_with fail
          obtain ⟨wo, hwo⟩ : ∃ wo : World, wo = wr := ⟨_, rfl⟩
          rw [← hwo] at hbl hcu HUR HC ⊢
          clear hwo
          go_loopw [5, 55] (fun n v ws => ∃ t : Nat, t ≤ l.length ∧ v = .int .i64 t ∧ ∃ mm : Int, n = .int .i64 mm ∧ 1 ≤ mm ∧ mm ≤ 1 + 64 * j + t ∧ Upd (fun _ => False) wo ws ∧ firstOK globs funcs.length l t) (fun _ v _ => l.length - (intOf v).toNat)
          case atStart => exact ⟨0, by omega, rfl, nn, rfl, by omega, by omega, Upd.refl _ _, fun t ht => absurd ht (by omega)⟩
          case round =>
            obtain ⟨t, ht, rfl, mm, rfl, hm1, hm2, hus, hf⟩ := hrel
            have HUT := Lib.hid hus
            have HUS := Lib.hid (HUR.out.trans hus (fun _ e => .inl e))
            have HFI := Lib.hid hf
            clear hus hf hbl hcu
            by_cases htl : t < l.length
            · have hcodeW : CodeAt wr c u l := HC.out.frame HUT.out (Keep.refl _ _) (fun _ e => e.elim)
              obtain ⟨b3, off3, cap3, e1, hb3l, i0, i1, i2, i3⟩ := hcodeW.at_ htl
              rw [HUU.out] at e1
              injection e1 with eA _ eC
              injection eA with eA
              injection eA with eb eo
              subst eb
              subst eo
              subst eC
              obtain ⟨i, hi⟩ : ∃ i, i = l.getD t In0 := ⟨_, rfl⟩
              rw [← hi] at i0 i1 i2 i3
              have p0 : wr.cell? ⟨w.heap.size, 0, none⟩ = some (.int .i64 globs) := (HBP.out.upd HUS.out (fun e => e)).cell 0
              have p1 := (HBP.out.upd HUS.out (fun e => e)).cell 1
              have lp := (HBP.out.upd HUS.out (fun e => e)).lt
              have htI : (t : Int) < (l.length : Int) := by omega
              have HII := Lib.hid hi
              obtain ⟨r, hr⟩ : ∃ r, r = wrongI globs funcs.length l.length i := ⟨_, rfl⟩
              have hri : r < 0 ↔ instOK globs funcs.length l.length i := by rw [hr]; exact wrongI_iff _ _ _ _
              have Hri := Lib.hid hri
              have Hw := fun w => wrong_c w globs funcs.length l.length i
              rw [← hr] at Hw
              have HW := Lib.hid Hw
              clear hi hr hri Hw hcodeW
              unfold In.v at HW
              have HUA := Lib.hid (HUS.out.alloc (.cells #[.int .i64 i.op, .int .i64 i.a, .int .i64 i.b, .int .i64 i.c] 40))
              by_cases hrn : r < 0
              · have hge : ¬ 0 ≤ r := by omega
                go_wp2_with (go_at_call 52; refine (HW.out _).mono ?_; rintro e w2 ⟨rfl, hu2⟩)
                go_roundw
                case rel =>
                  refine ⟨t + 1, by omega, by go_num, mm + 1, rfl, by omega, by omega, (HUT.out.alloc _).trans hu2 (fun _ e => .inl e), fun s hs => ?_⟩
                  by_cases e : s = t
                  · subst e
                    rw [← HII.out]
                    exact Hri.out.1 hrn
                  · exact HFI.out s (by omega)
                case measure => simp [intOf]; omega
              · have hge : 0 ≤ r := by omega
                go_wp2_with (go_at_call 52; refine (HW.out _).mono ?_; rintro e w2 ⟨rfl, hu2⟩)
                go_ret
                refine ⟨mm + 1, rfl, ⟨fun e => by omega, fun hp => ?_⟩, HWW.out.trans (HUA.out.trans hu2 (fun _ e => .inl e)) (fun _ e => .inl e)⟩
                have hin : l ∈ funcs := by rw [HLL.out, List.getD, List.getElem?_eq_getElem hlt]; exact List.getElem_mem hlt
                have hii : i ∈ l := by rw [HII.out, List.getD, List.getElem?_eq_getElem htl]; exact List.getElem_mem htl
                exact absurd (Hri.out.2 ((hp.2.2 l hin).2 i hii)) (by omega)
            · obtain rfl : t = l.length := by omega
              clear htl
              go_wp2_with fail
              go_roundw
              case rel =>
                  refine ⟨j + 1, by omega, by go_num, mm, rfl, by omega, by omega, HUS.out, fun t ht => ?_⟩
                  by_cases e : t = j
                  · subst e
                    rw [← HLL.out]
                    intro i hi
                    obtain ⟨s, hs, rfl⟩ := List.getElem_of_mem hi
                    have := HFI.out s hs
                    rw [List.getD, List.getElem?_eq_getElem hs] at this
                    exact this
                  · exact HB.out t (by omega)
              case measure => simp [intOf]; omega
        · obtain rfl : j = funcs.length := by omega
          clear hlt
          go_wp2_with fail
          go_ret
          refine ⟨0, rfl, ⟨fun _ => ⟨⟨h1, h2⟩, ⟨h3, h4⟩, fun l hl' => ?_⟩, fun _ => rfl⟩, HWW.out.trans HUR.out (fun _ e => .inl e)⟩
          obtain ⟨t, ht, rfl⟩ := List.getElem_of_mem hl'
          have e1 : funcs.getD t [] = funcs[t] := by simp [List.getD, ht]
          have := HL.out t ht
          have h5 := HB.out t ht
          rw [e1] at this h5
          exact ⟨this, h5⟩
theorem maycode_c (h : ProgAt w c pv funcs) : Calls Try.prog 34 #[.agg #[.int .i64 globs, pv]] w (MayPost globs funcs w) := by
  by_cases hn : (1 ≤ funcs.length ∧ funcs.length ≤ 16) ∧ (0 ≤ globs ∧ globs ≤ 32)
  · exact may_body h hn.1.1 hn.1.2 hn.2.1 hn.2.2
  · exact may_head h hn
end
end Go.Proofs.Ytndldoamadmphaa
