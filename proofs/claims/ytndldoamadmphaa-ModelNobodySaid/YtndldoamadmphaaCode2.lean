/- Package code: frame.wrong. -/
import Derived.Test.YtndldoamadmphaaCode1
namespace Go.Proofs.Ytndldoamadmphaa
open Go.RowKit
def kindN (i : In) (j : Nat) : Nat := match j with | 0 => (kindsOf i).1 | 1 => (kindsOf i).2.1 | _ => (kindsOf i).2.2
def argN (i : In) (j : Nat) : Int := match j with | 0 => i.a | 1 => i.b | _ => i.c
def wrongI (gl nf size : Int) (i : In) : Int :=
  if ¬ (0 ≤ i.op ∧ i.op < 18) then 0 else if ¬ partOK gl nf size (kindN i 0) (argN i 0) then 1 else if ¬ partOK gl nf size (kindN i 1) (argN i 1) then 2 else if ¬ partOK gl nf size (kindN i 2) (argN i 2) then 3 else -1
theorem kinds_lt (k : Nat) : (partsL.getD k (0, 0, 0)).1 < 7 ∧ (partsL.getD k (0, 0, 0)).2.1 < 7 ∧ (partsL.getD k (0, 0, 0)).2.2 < 7 := by
  by_cases h : k < 18
  · rcases lt18 k h with rfl | rfl | rfl | rfl | rfl | rfl | rfl | rfl | rfl | rfl | rfl | rfl | rfl | rfl | rfl | rfl | rfl | rfl <;> decide
  · rw [List.getD, List.getElem?_eq_none (by simp [partsL]; omega)]
    decide
theorem kindN_lt (i : In) (j : Nat) : kindN i j < 7 := by
  obtain ⟨h1, h2, h3⟩ := kinds_lt i.op.toNat
  unfold kindN kindsOf
  split <;> assumption
theorem part3_at (i : In) {j : Nat} (hj : j < 3) : (part3 i.op.toNat)[j]? = some (.int .i64 (kindN i j)) := by
  have e : j = 0 ∨ j = 1 ∨ j = 2 := by omega
  rcases e with rfl | rfl | rfl <;> rfl
theorem argN_at (i : In) {j : Nat} (hj : j < 3) : (#[Value.int .i64 i.a, .int .i64 i.b, .int .i64 i.c] : Array Value)[j]? = some (.int .i64 (argN i j)) := by
  have e : j = 0 ∨ j = 1 ∨ j = 2 := by omega
  rcases e with rfl | rfl | rfl <;> rfl
theorem wrong_stop {gl nf size : Int} {i : In} (h : 0 ≤ i.op ∧ i.op < 18) {j : Nat} (hj : j < 3) (hb : ∀ t, t < j → partOK gl nf size (kindN i t) (argN i t)) (hn : ¬ partOK gl nf size (kindN i j) (argN i j)) : wrongI gl nf size i = (j : Int) + 1 := by
  have e : j = 0 ∨ j = 1 ∨ j = 2 := by omega
  unfold wrongI
  rw [if_neg (by simpa using h)]
  rcases e with rfl | rfl | rfl
  · rw [if_pos hn]; rfl
  · rw [if_neg (fun c => c (hb 0 (by omega))), if_pos hn]; rfl
  · rw [if_neg (fun c => c (hb 0 (by omega))), if_neg (fun c => c (hb 1 (by omega))), if_pos hn]; rfl
theorem wrong_none {gl nf size : Int} {i : In} (h : 0 ≤ i.op ∧ i.op < 18) (hb : ∀ t, t < 3 → partOK gl nf size (kindN i t) (argN i t)) : wrongI gl nf size i = -1 := by
  unfold wrongI
  rw [if_neg (by simpa using h), if_neg (fun c => c (hb 0 (by omega))), if_neg (fun c => c (hb 1 (by omega))), if_neg (fun c => c (hb 2 (by omega)))]
set_option maxRecDepth 100000 in
set_option maxHeartbeats 2000000 in
theorem wrong_op (w : World) (gl nf size : Int) (i : In) (h : ¬ (0 ≤ i.op ∧ i.op < 18)) :
    Calls Try.prog 52 #[.agg #[.int .i64 gl, .int .i64 nf, .int .i64 size], i.v] w fun e w' => e = .returned (.int .i64 (wrongI gl nf size i)) ∧ Upd (fun _ => False) w w' := by
  have hw : wrongI gl nf size i = 0 := by unfold wrongI; rw [if_pos h]
  rw [hw]
  have hfin : ∀ o1 o2, Upd (fun _ => False) w ((w.alloc o1).alloc o2) := fun o1 o2 => ((Upd.refl _ _).alloc _).alloc _
  have HF := Lib.hid hfin
  clear hfin hw
  unfold In.v
  by_cases h0 : i.op < 0
  · clear h
    go_enter Try.func52, Try.ntmps52
    go_wp2_with fail
    go_ret
    exact ⟨rfl, HF.out _ _⟩
  · have h1 : 17 < i.op := by omega
    clear h
    go_enter Try.func52, Try.ntmps52
    go_wp2_with fail
    go_ret
    exact ⟨rfl, HF.out _ _⟩
set_option maxRecDepth 100000 in
set_option maxHeartbeats 2000000 in
theorem wrong_yes (w : World) (gl nf size : Int) (i : In) (h : 0 ≤ i.op ∧ i.op < 18) :
    Calls Try.prog 52 #[.agg #[.int .i64 gl, .int .i64 nf, .int .i64 size], i.v] w fun e w' => e = .returned (.int .i64 (wrongI gl nf size i)) ∧ Upd (fun _ => False) w w' := by
  obtain ⟨k, hk⟩ : ∃ k : Nat, k = i.op.toNat := ⟨_, rfl⟩
  have hko : i.op = k := by omega
  have hk18 : k < 18 := by omega
  have hidx := index_parts hk18
  have hkI : (k : Int) < 18 := by omega
  have hk0 : 0 ≤ (k : Int) := by omega
  obtain ⟨W, hW⟩ : ∃ W, W = (w.alloc (.cells #[.int .i64 gl, .int .i64 nf, .int .i64 size] 89)).alloc (.cells #[.int .i64 k, .int .i64 i.a, .int .i64 i.b, .int .i64 i.c] 40) := ⟨_, rfl⟩
  have bf : Blk W w.heap.size 89 #[.int .i64 gl, .int .i64 nf, .int .i64 size] := by rw [hW]; exact (Blk.new _ _ _).alloc _
  have bi : Blk W (w.heap.size + 1) 40 #[.int .i64 k, .int .i64 i.a, .int .i64 i.b, .int .i64 i.c] := by rw [hW]; exact Blk.new' _ _ _ (by simp)
  have hwW : Upd (fun _ => False) w W := by rw [hW]; exact ((Upd.refl _ _).alloc _).alloc _
  have HI : Hid (∀ w', Upd (fun _ => False) W w' → w'.cell? ⟨w.heap.size + 1, 0, none⟩ = some (.int .i64 k)) := Lib.hid (fun w' hu => (bi.upd hu (fun e => e)).cell 0)
  have HBF := Lib.hid bf
  have HBI := Lib.hid bi
  have HWW := Lib.hid hwW
  have H := Lib.hid h
  have HK := Lib.hid hk
  have i0 := bi.cell 0
  have i0' : W.cell? ⟨w.heap.size + 1, 0, none⟩ = some (.int .i64 k) := i0
  have li := bi.lt
  rw [hW] at i0' li
  unfold In.v
  rw [hko]
  clear bf bi hwW h hk i0 hko
  go_enter Try.func52, Try.ntmps52
  go_wp2_with fail
  rw [← hW] at i0' li ⊢
  clear hW
  go_region_held3 (fun w' => w'.cell? ⟨w.heap.size + 1, 0, none⟩ = some (.int .i64 k)) (first | go_keep | (exact HI.out _ (Upd.fromDrew (by assumption)))) (first | (go_at_call 75; refine (parts_c _).mono ?_; rintro e w1 ⟨rfl, hu⟩))
  go_wp2_with fail
  have HU := Lib.hid hu.fromDrew
  clear hu i0' li hidx
  go_loopw [19] (fun v wr => ∃ j : Nat, j ≤ 3 ∧ v = .int .i64 j ∧ Upd (fun _ => False) W wr ∧ ∀ t, t < j → partOK gl nf size (kindN i t) (argN i t)) (fun v _ => 3 - (intOf v).toNat)
  case atStart => exact ⟨0, by omega, rfl, HU.out, fun t ht => absurd ht (by omega)⟩
  case round =>
    obtain ⟨j, hj, rfl, hur, hb⟩ := hrel
    have HUR := Lib.hid hur
    have HB := Lib.hid hb
    clear hur hb
    by_cases hlt : j < 3
    · have hjI : (j : Int) < 3 := by omega
      have hj0 : 0 ≤ (j : Int) := by omega
      have hpart := part3_at i hlt
      rw [← HK.out] at hpart
      have hix := fun w => index_part (k := k) w hlt hpart
      clear hpart
      have hS : ∀ W', Upd (fun _ => False) W W' → W'.cell? ⟨w.heap.size, 0, none⟩ = some (.int .i64 gl) ∧ W'.cell? ⟨w.heap.size, 1, none⟩ = some (.int .i64 nf) ∧ W'.cell? ⟨w.heap.size, 2, none⟩ = some (.int .i64 size) ∧ W'.cell? ⟨w.heap.size + 1, 1, none⟩ = some (.int .i64 i.a) ∧ W'.cell? ⟨w.heap.size + 1, 2, none⟩ = some (.int .i64 i.b) ∧ W'.cell? ⟨w.heap.size + 1, 3, none⟩ = some (.int .i64 i.c) := fun W' hu =>
        ⟨(HBF.out.upd hu (fun e => e)).cell 0, (HBF.out.upd hu (fun e => e)).cell 1, (HBF.out.upd hu (fun e => e)).cell 2, (HBI.out.upd hu (fun e => e)).cell 1, (HBI.out.upd hu (fun e => e)).cell 2, (HBI.out.upd hu (fun e => e)).cell 3⟩
      have hS0 := Lib.hid (hS wr HUR.out)
      have hS1 := Lib.hid (hS _ ((HUR.out.alloc (.cells #[.int .i64 i.a, .int .i64 i.b, .int .i64 i.c] 3)).drew))
      have HS := Lib.hid hS
      have hnew : (wr.alloc (.cells #[.int .i64 i.a, .int .i64 i.b, .int .i64 i.c] 3)).drew.cell? ⟨wr.heap.size, j, none⟩ = some (.int .i64 (argN i j)) := by
        have := (Blk.new wr 3 #[.int .i64 i.a, .int .i64 i.b, .int .i64 i.c]).cell j
        rw [argN_at i hlt] at this
        exact this
      have hlf := (HBF.out.upd HUR.out (fun e => e)).lt
      have hli := (HBI.out.upd HUR.out (fun e => e)).lt
      obtain ⟨kn, hkn⟩ : ∃ kn, kn = kindN i j := ⟨_, rfl⟩
      obtain ⟨an, han⟩ : ∃ an, an = argN i j := ⟨_, rfl⟩
      have hkn7 : kn < 7 := by rw [hkn]; exact kindN_lt i j
      rw [← hkn] at hix
      rw [← han] at hnew
      have HKN := Lib.hid hkn
      have HAN := Lib.hid han
      clear hS hkn han
      go_wp2_with fail
      refine wp_region_held_drew (S := (fun W' => W'.cell? ⟨w.heap.size, 0, none⟩ = some (.int .i64 gl) ∧ W'.cell? ⟨w.heap.size, 1, none⟩ = some (.int .i64 nf) ∧ W'.cell? ⟨w.heap.size, 2, none⟩ = some (.int .i64 size) ∧ W'.cell? ⟨w.heap.size + 1, 1, none⟩ = some (.int .i64 i.a) ∧ W'.cell? ⟨w.heap.size + 1, 2, none⟩ = some (.int .i64 i.b) ∧ W'.cell? ⟨w.heap.size + 1, 3, none⟩ = some (.int .i64 i.c))) (by kernel_rfl) hS0.out (fun hHeld => ?_)
      refine wpAnyH_take (i := 0) (v := .agg #[.int .i64 gl, .int .i64 nf, .int .i64 size]) rfl (by kernel_rfl) (by kernel_rfl) (by kernel_rfl) (fun _ _ _ h => h) (Or.inl ⟨by rfl, ?_⟩) (by assumption) ?_
      · intro w hSw
        try dsimp only at hSw
        go_simp
      simp only [Act.put, List.setIfInBounds_toArray]
      refine wpAnyH_take (i := 1) (v := .int .i64 kn) rfl (by kernel_rfl) (by kernel_rfl) (by kernel_rfl) (fun _ _ _ h => h) (Or.inl ⟨by rfl, ?_⟩) (by assumption) ?_
      · intro w hSw
        try dsimp only at hSw
        go_simp
      simp only [Act.put]
      refine wpAnyH_take (i := 2) (v := .pointer (some ⟨w.heap.size + 1, 1, none⟩)) rfl (by kernel_rfl) (by kernel_rfl) (by kernel_rfl) (fun _ _ _ h => h) (Or.inl ⟨by rfl, ?_⟩) (by assumption) ?_
      · intro w hSw
        try dsimp only at hSw
        go_simp
      simp only [Act.put]
      refine wpAnyH_take (i := 3) (v := .int .i64 i.a) rfl (by kernel_rfl) (by kernel_rfl) (by kernel_rfl) (fun _ _ _ h => h) (Or.inl ⟨by rfl, ?_⟩) (by assumption) ?_
      · intro w hSw
        try dsimp only at hSw
        go_simp
      simp only [Act.put]
      refine wpAnyH_take (i := 4) (v := .pointer (some ⟨w.heap.size + 1, 2, none⟩)) rfl (by kernel_rfl) (by kernel_rfl) (by kernel_rfl) (fun _ _ _ h => h) (Or.inl ⟨by rfl, ?_⟩) (by assumption) ?_
      · intro w hSw
        try dsimp only at hSw
        go_simp
      simp only [Act.put]
      refine wpAnyH_take (i := 5) (v := .int .i64 i.b) rfl (by kernel_rfl) (by kernel_rfl) (by kernel_rfl) (fun _ _ _ h => h) (Or.inl ⟨by rfl, ?_⟩) (by assumption) ?_
      · intro w hSw
        try dsimp only at hSw
        go_simp
      simp only [Act.put]
      refine wpAnyH_take (i := 6) (v := .pointer (some ⟨w.heap.size + 1, 3, none⟩)) rfl (by kernel_rfl) (by kernel_rfl) (by kernel_rfl) (fun _ _ _ h => h) (Or.inl ⟨by rfl, ?_⟩) (by assumption) ?_
      · intro w hSw
        try dsimp only at hSw
        go_simp
      simp only [Act.put]
      refine wpAnyH_take (i := 7) (v := .int .i64 i.c) rfl (by kernel_rfl) (by kernel_rfl) (by kernel_rfl) (fun _ _ _ h => h) (Or.inl ⟨by rfl, ?_⟩) (by assumption) ?_
      · intro w hSw
        try dsimp only at hSw
        go_simp
      simp only [Act.put]
      refine wpAnyH_take (i := 9) (v := .int .i64 j) rfl (by kernel_rfl) (by kernel_rfl) (by kernel_rfl) (fun _ _ _ h => h) (Or.inl ⟨by rfl, ?_⟩) (by assumption) ?_
      · intro w hSw
        try dsimp only at hSw
        go_simp
      simp only [Act.put]
      refine wpAnyH_ready (rs := [8]) (by kernel_rfl) (by simp) ?_
      refine AllReadyH.cons rfl (fun K hK => ?_) AllReadyH.nil
      go_simp
      refine hK.out _ _ hS1.out (fun hHeld => ?_)
      clear hK K
      try simp only [Act.put, List.setIfInBounds_toArray, List.set_cons_zero, List.set_cons_succ]
      refine wpAnyH_take (i := 10) (v := .pointer (some ⟨wr.heap.size, j, none⟩)) rfl (by kernel_rfl) (by kernel_rfl) (by kernel_rfl) (fun _ _ _ h => h) (Or.inl ⟨by rfl, ?_⟩) (by assumption) ?_
      · intro w hSw
        try dsimp only at hSw
        go_simp
      simp only [Act.put, List.setIfInBounds_toArray]
      refine wpAnyH_ready (rs := [11]) (by kernel_rfl) (by simp) ?_
      refine AllReadyH.cons rfl (fun K hK => ?_) AllReadyH.nil
      go_simp
      refine hK.out _ _ hS1.out (fun hHeld => ?_)
      clear hK K
      try simp only [Act.put, List.setIfInBounds_toArray, List.set_cons_zero, List.set_cons_succ]
      refine wpAnyH_ready (rs := [12]) (by kernel_rfl) (by simp) ?_
      refine AllReadyH.cons rfl (fun K hK => ?_) AllReadyH.nil
      go_simp
      refine (fits_c _ gl nf size hkn7 an).mono ?_
      rintro e w2 ⟨rfl, hu2⟩
      have HU2 := Lib.hid (((HUR.out.alloc (.cells #[.int .i64 i.a, .int .i64 i.b, .int .i64 i.c] 3)).drew).trans hu2 (fun _ e => .inl e))
      have hS2 := Lib.hid (HS.out _ HU2.out)
      clear hu2 hnew
      by_cases hp : partOK gl nf size kn an
      · have hpd : decide (partOK gl nf size kn an) = true := by simpa using hp
        rw [hpd]
        have HP := Lib.hid hp
        clear hp hpd
        go_wp2_with fail
        refine hK.out _ _ hS2.out (fun hHeld => ?_)
        clear hK K
        try simp only [Act.put, List.setIfInBounds_toArray, List.set_cons_zero, List.set_cons_succ]
        refine wpAnyH_ready (rs := [13]) (by kernel_rfl) (by simp) ?_
        refine AllReadyH.cons rfl (fun K hK => ?_) AllReadyH.nil
        go_simp
        refine hK.out _ _ hS2.out (fun hHeld => ?_)
        clear hK K
        try simp only [Act.put, List.setIfInBounds_toArray, List.set_cons_zero, List.set_cons_succ]
        refine wpAnyH_done (by kernel_rfl) ?_ _
        go_wp2_with fail
        go_roundw
        case rel =>
          refine ⟨j + 1, by omega, by go_num, HU2.out, fun t ht => ?_⟩
          by_cases e : t = j
          · subst e
            rw [← HKN.out, ← HAN.out]
            exact HP.out
          · exact HB.out t (by omega)
        case measure => simp [intOf]; omega
      · have hpd : decide (partOK gl nf size kn an) = false := by simpa using hp
        rw [hpd]
        have HP := Lib.hid hp
        clear hp hpd
        go_wp2_with fail
        refine hK.out _ _ hS2.out (fun hHeld => ?_)
        clear hK K
        try simp only [Act.put, List.setIfInBounds_toArray, List.set_cons_zero, List.set_cons_succ]
        refine wpAnyH_ready (rs := [13]) (by kernel_rfl) (by simp) ?_
        refine AllReadyH.cons rfl (fun K hK => ?_) AllReadyH.nil
        go_simp
        refine hK.out _ _ hS2.out (fun hHeld => ?_)
        clear hK K
        try simp only [Act.put, List.setIfInBounds_toArray, List.set_cons_zero, List.set_cons_succ]
        refine wpAnyH_done (by kernel_rfl) ?_ _
        go_wp2_with fail
        go_ret
        refine ⟨?_, HWW.out.trans HU2.out (fun _ e => .inl e)⟩
        have hst := wrong_stop (gl := gl) (nf := nf) (size := size) H.out hlt HB.out (by rw [← HKN.out, ← HAN.out]; exact HP.out)
        rw [hst]
        rfl
    · have hj3 : j = 3 := by omega
      subst hj3
      go_wp2_with fail
      go_ret
      exact ⟨by rw [wrong_none H.out HB.out]; rfl, HWW.out.trans HUR.out (fun _ e => .inl e)⟩
theorem wrong_c (w : World) (gl nf size : Int) (i : In) :
    Calls Try.prog 52 #[.agg #[.int .i64 gl, .int .i64 nf, .int .i64 size], i.v] w fun e w' => e = .returned (.int .i64 (wrongI gl nf size i)) ∧ Upd (fun _ => False) w w' := by
  by_cases h : 0 ≤ i.op ∧ i.op < 18
  · exact wrong_yes w gl nf size i h
  · exact wrong_op w gl nf size i h
theorem wrongI_iff (gl nf size : Int) (i : In) : wrongI gl nf size i < 0 ↔ instOK gl nf size i := by
  unfold wrongI instOK
  have e0 : partOK gl nf size (kindN i 0) (argN i 0) = partOK gl nf size (kindsOf i).1 i.a := rfl
  have e1 : partOK gl nf size (kindN i 1) (argN i 1) = partOK gl nf size (kindsOf i).2.1 i.b := rfl
  have e2 : partOK gl nf size (kindN i 2) (argN i 2) = partOK gl nf size (kindsOf i).2.2 i.c := rfl
  by_cases h : 0 ≤ i.op ∧ i.op < 18
  · rw [if_neg (by simpa using h)]
    by_cases h0 : partOK gl nf size (kindN i 0) (argN i 0)
    · rw [if_neg (by simpa using h0)]
      by_cases h1 : partOK gl nf size (kindN i 1) (argN i 1)
      · rw [if_neg (by simpa using h1)]
        by_cases h2 : partOK gl nf size (kindN i 2) (argN i 2)
        · rw [if_neg (by simpa using h2)]
          exact ⟨fun _ => ⟨h, h0, h1, h2⟩, fun _ => by decide⟩
        · rw [if_pos h2]
          exact ⟨fun c => by omega, fun c => absurd c.2.2.2 h2⟩
      · rw [if_pos h1]
        exact ⟨fun c => by omega, fun c => absurd c.2.2.1 h1⟩
    · rw [if_pos h0]
      exact ⟨fun c => by omega, fun c => absurd c.2.1 h0⟩
  · rw [if_pos h]
    exact ⟨fun c => by omega, fun c => absurd c.1 h⟩
end Go.Proofs.Ytndldoamadmphaa
