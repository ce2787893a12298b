/- Contracts of package wait: Wake, Len. -/
import Derived.Test.YtndldoamadmphaaWait2
namespace Go.Proofs.Ytndldoamadmphaa
open Go.RowKit

def wakeV (L : Nat → List Int) (a : Int) : Int × Bool := if placeB a = true then (match L a.toNat with | [] => (0, false) | x :: _ => (x, true)) else (0, false)
def wakeL (L : Nat → List Int) (a : Int) : Nat → List Int := if placeB a = true then (match L a.toNat with | [] => L | _ :: xs => upN L a.toNat xs) else L

theorem Row.tail {w : World} {row : Option Nat} {g cap : Nat} {x : Int} {xs : List Int} (h : Row w 3 row (.slice (some ⟨g, 0, none⟩) (xs.length + 1) cap) ((x :: xs).map (Value.int .i64))) :
    RdF w (some ⟨g, 1, none⟩) xs.length 1 (fun i _ => xs.getD i 0) := by
  have hf := h.fits
  simp at hf
  rcases h.form with ⟨hv, _, _⟩ | ⟨g', cap', hv, _, _, _, hg, hc, _⟩
  · cases hv
  · injection hv with e1 _ _
    injection e1 with e1
    injection e1 with e1
    subst e1
    refine ⟨by omega, fun _ => ⟨g, 1, rfl, hg, fun i hi j hj => ?_⟩⟩
    have hj0 : j = 0 := by omega
    subst hj0
    have := hc (i + 1) (.int .i64 (xs.getD i 0)) (by simp [List.getD, hi])
    rw [show 1 + (i * 1 + 0) = i + 1 by omega]
    exact this

theorem wake_fin {w w1 : World} {a : Nat} {vs : Nat → Value} {rs : Nat → Option Nat} {L : Nat → List Int} (h : WtAt w a vs rs L) {i : Nat} (hi : i < 32) {xs : List Int} {v' : Value} (hn : NewInts w w1 v' xs) (hu : Upd (fun _ => False) w w1) :
    ∃ vs' rs', WtAt (w1.setCell ⟨a, i, none⟩ v') a vs' rs' (upN L i xs) ∧ Upd (ownW a rs) w (w1.setCell ⟨a, i, none⟩ v') ∧ (∀ k, ownW a rs' k → ownW a rs k ∨ w.heap.size ≤ k) := by
  obtain ⟨r, hr, hfr⟩ := hn
  have hal := h.blk.lt
  have h1 := h.upd hu (fun _ _ e => e)
  have hset : Upd (fun k => k = a) w1 (w1.setCell ⟨a, i, none⟩ v') := (Upd.refl (fun k => k = a) w1).setCell (p := ⟨a, i, none⟩) (.inl rfl) _
  have lt1 : ∀ q, q < 32 → ∀ k, rs q = some k → k < w.heap.size := fun q hq => (h.row q hq).lt
  refine ⟨upN vs i v', upN rs i r, ⟨?_, ?_, ?_, ?_⟩, (hu.mono (fun _ e => e.elim)).trans hset (fun k e => .inl (.inl e)), ?_⟩
  · rw [← arr32_set]
    exact h1.blk.set_ i _
  · intro j hj
    by_cases e : j = i
    · subst e
      rw [upN_same, upN_same, upN_same]
      exact hr.upd hset (fun k hk e => by have := hfr k hk; omega)
    · rw [upN_other _ _ e, upN_other _ _ e, upN_other _ _ e]
      exact (h1.row j hj).upd hset (fun k hk e2 => h.ne j hj (by rw [hk, e2]))
  · intro j hj
    by_cases e : j = i
    · subst e
      rw [upN_same]
      intro e2
      have := hfr a e2
      omega
    · rw [upN_other _ _ e]
      exact h.ne j hj
  · intro j j' hj hj' hne k hk
    by_cases e : j = i
    · subst e
      rw [upN_same] at hk
      rw [upN_other _ _ (fun e => hne e.symm)]
      intro e2
      have := hfr k hk
      have := lt1 j' hj' k e2
      omega
    · rw [upN_other _ _ e] at hk
      by_cases e' : j' = i
      · subst e'
        rw [upN_same]
        intro e2
        have := hfr k e2
        have := lt1 j hj k hk
        omega
      · rw [upN_other _ _ e']
        exact h.dis j j' hj hj' hne k hk
  · rintro k (rfl | ⟨j, hj, hk⟩)
    · exact .inl (.inl rfl)
    · by_cases e : j = i
      · subst e
        rw [upN_same] at hk
        exact .inr (hfr k hk)
      · rw [upN_other _ _ e] at hk
        exact .inl (.inr ⟨j, hj, hk⟩)

theorem NewInts.lenv {w w' : World} {v : Value} {l : List Int} (h : NewInts w w' v l) : ∃ A cap, v = .slice A l.length cap := by
  obtain ⟨r, hr, _⟩ := h
  exact hr.lenv
theorem wake_c1 {w W w1 : World} {a : Nat} {vs : Nat → Value} {rs : Nat → Option Nat} {L : Nat → List Int} (h : WtAt w a vs rs L) {i : Nat} (hi : i < 32) (hu : Upd (fun _ => False) W w1) (hW : W.heap = w.heap := by rfl) : w1.cell? ⟨a, i, none⟩ = some (vs i) := by
  have hb := h.blk
  have hb' : Blk W a 100 (arr32 vs) := by unfold Blk; rw [hW]; exact hb
  exact ((hb'.upd hu (fun e => e)).cell i).trans (arr32_get vs hi)
theorem wake_f1 {w W w1 : World} {a i : Nat} {vs : Nat → Value} {rs : Nat → Option Nat} {L : Nat → List Int} (h : WtAt w a vs rs L) (hu : Upd (fun _ => False) W w1) (hW : W.heap = w.heap := by rfl) : w1.frozen? ⟨a, i, none⟩ = false := by
  have hb := h.blk
  have hb' : Blk W a 100 (arr32 vs) := by unfold Blk; rw [hW]; exact hb
  exact (hb'.upd hu (fun e => e)).frozen i
set_option maxRecDepth 100000 in
set_option maxHeartbeats 2000000 in
theorem wake_c {w : World} {a : Nat} {vs : Nat → Value} {rs : Nat → Option Nat} {L : Nat → List Int} (h : WtAt w a vs rs L) (hl : ∀ i, i < 32 → (L i).length < 900000) (at' : Int) :
    Calls Try.prog 81 #[.pointer (some ⟨a, 0, none⟩), .int .i64 at'] w fun e w' => e = .returned (.tuple #[.int .i64 (wakeV L at').1, .bool (wakeV L at').2]) ∧
      ∃ vs' rs', WtAt w' a vs' rs' (wakeL L at') ∧ Upd (ownW a rs) w w' ∧ (∀ k, ownW a rs' k → ownW a rs k ∨ w.heap.size ≤ k) := by
  cases hp : placeB at' with
  | false =>
    have e1 : wakeV L at' = (0, false) := by simp [wakeV, hp]
    have e2 : wakeL L at' = L := by simp [wakeL, hp]
    have hpc := place_c at' w
    rw [hp] at hpc
    rw [e1, e2]
    have H := Lib.hid h
    have Hpc := Lib.hid hpc
    clear h hpc e1 e2 hp hl
    go_enter Try.func81, Try.ntmps81
    go_wp2_with (refine Hpc.out.mono ?_; rintro e w1 ⟨rfl, rfl⟩)
    go_ret2
    exact ⟨rfl, vs, rs, H.out, Upd.refl _ _, fun k hk => .inl hk⟩
  | true =>
    have hpc := place_c at' w
    rw [hp] at hpc
    have Hpc := Lib.hid hpc
    have H := Lib.hid h
    obtain ⟨i, rfl⟩ : ∃ i : Nat, at' = i := by
      simp [placeB] at hp
      exact ⟨at'.toNat, by omega⟩
    have hi32 : i < 32 := by
      simp [placeB] at hp
      omega
    have c0 := h.cell hi32
    have f0 := h.blk.frozen i
    have hal := h.blk.lt
    have hiI : (i : Int) < 32 := by omega
    have hrow := h.row i hi32
    cases hL : L i with
    | nil =>
      have e1 : wakeV L i = (0, false) := by simp [wakeV, hp, hL]
      have e2 : wakeL L i = L := by simp [wakeL, hp, hL]
      rw [e1, e2]
      rw [hL] at hrow
      obtain ⟨A, cap, hv⟩ := hrow.lenv
      simp only [List.length_nil] at hv
      rw [hv] at c0
      clear h hpc e1 e2 hp hl hrow hL hv
      go_enter Try.func81, Try.ntmps81
      go_wp2_with (refine Hpc.out.mono ?_; rintro e w1 ⟨rfl, rfl⟩)
      go_ret2
      exact ⟨rfl, vs, rs, H.out, Upd.refl _ _, fun k hk => .inl hk⟩
    | cons x xs =>
      have e1 : wakeV L i = (x, true) := by simp [wakeV, hp, hL]
      have e2 : wakeL L i = upN L i xs := by simp [wakeL, hp, hL]
      rw [e1, e2]
      have hli := hl i hi32
      rw [hL] at hrow hli
      obtain ⟨g, cap, hv, hg0, hcap, hcapm⟩ : ∃ g cap, vs i = .slice (some ⟨g, 0, none⟩) (xs.length + 1) cap ∧ w.cell? ⟨g, 0, none⟩ = some (.int .i64 x) ∧ xs.length + 1 ≤ cap ∧ cap ≤ maxLen := by
        rcases hrow.form with ⟨_, h0, _⟩ | ⟨g, cap, hv, _, hc, hm, _, hcell, _⟩
        · simp at h0
        · refine ⟨g, cap, by simpa using hv, hcell 0 _ (by simp), by simpa using hc, hm⟩
      rw [hv] at hrow c0
      have hrd := hrow.tail
      unfold maxLen at hcapm
      have hcl : ∀ W, Upd (fun _ => False) w W → ∀ A, (A = some ⟨g, 1, none⟩ ∨ xs = []) → A ≠ none → Calls Try.prog 44 #[.slice A xs.length (cap - 1)] W fun e w' => ∃ v, e = .returned v ∧ NewInts W w' v xs ∧ Upd (fun _ => False) W w' := by
        intro W hW A hA hA2
        refine cloneI_c ?_ (by simp at hli; omega) (fun e => absurd e hA2)
        rcases hA with rfl | rfl
        · exact hrd.upd hW (fun _ e => e.elim)
        · exact ⟨by simp, fun h => by simp at h⟩
      have Hcl := Lib.hid hcl
      have hlI : (1 : Int) ≤ ((xs.length + 1 : Nat) : Int) := by omega
      have hl0 : ((xs.length + 1 : Nat) == 0) = false := by simp
      have hl0I : (((xs.length : Nat) : Int) + 1 == 0) = false := by simp; omega
      by_cases hc1 : cap = 1
      · have hx0 : xs = [] := by
          cases xs with
          | nil => rfl
          | cons y ys => simp at hcap; omega
        subst hx0 hc1
        clear h hpc e1 e2 hp hl hrow hL hv hrd hcap hcapm hcl hli
        simp only [List.length_nil, Nat.zero_add] at c0
        have hcl1 : ∀ W, Upd (fun _ => False) w W → Calls Try.prog 44 #[.slice (some ⟨g, 0, none⟩) 0 0] W fun e w' => ∃ v, e = .returned v ∧ NewInts W w' v [] ∧ Upd (fun _ => False) W w' :=
          fun W hW => Hcl.out W hW (some ⟨g, 0, none⟩) (.inr rfl) (by simp)
        have Hcl1 := Lib.hid hcl1
        clear hcl1
        go_enter Try.func81, Try.ntmps81
        go_wp2_with (refine Hpc.out.mono ?_; rintro e w1 ⟨rfl, rfl⟩)
        go_region_with (go_at_call 44; refine (Hcl1.out _ (by first | exact (Upd.refl _ _).drew | exact (Upd.refl _ _).drewN _)).mono ?_; rintro e w1 ⟨v', rfl, hn1, hu1⟩; obtain ⟨A', cap', rfl⟩ := NewInts.lenv hn1; have c1 := (wake_c1 H.out hi32 hu1); have f1 := wake_f1 (i := i) H.out hu1)
        all_goals
          have Hn1 := Lib.hid hn1
          have Hu1 := Lib.hid hu1
          clear hn1 hu1
          go_wp2_with fail
          go_ret2
          exact ⟨rfl, wake_fin (w := w) H.out hi32 Hn1.out ((Upd.refl _ _).drew.trans Hu1.out (fun _ e => .inl e))⟩
      · clear h hpc e1 e2 hp hl hrow hL hv hrd hcl hli
        go_enter Try.func81, Try.ntmps81
        go_wp2_with (refine Hpc.out.mono ?_; rintro e w1 ⟨rfl, rfl⟩)
        go_region_with (go_at_call 44; refine (Hcl.out _ (by first | exact (Upd.refl _ _).drew | exact (Upd.refl _ _).drewN _) _ (.inl rfl) (by simp)).mono ?_; rintro e w1 ⟨v', rfl, hn1, hu1⟩; obtain ⟨A', cap', rfl⟩ := NewInts.lenv hn1; have c1 := (wake_c1 H.out hi32 hu1); have f1 := wake_f1 (i := i) H.out hu1)
        all_goals
          have Hn1 := Lib.hid hn1
          have Hu1 := Lib.hid hu1
          clear hn1 hu1
          go_wp2_with fail
          go_ret2
          exact ⟨rfl, wake_fin (w := w) H.out hi32 Hn1.out ((Upd.refl _ _).drew.trans Hu1.out (fun _ e => .inl e))⟩

def waitsN (L : Nat → List Int) (k : Nat) : Nat := ((List.range k).map fun i => (L i).length).sum
theorem waitsN_succ (L : Nat → List Int) (k : Nat) : waitsN L (k + 1) = waitsN L k + (L k).length := by
  unfold waitsN
  rw [List.range_succ, List.map_append, List.sum_append]
  simp
theorem waitsN_le (L : Nat → List Int) (hl : ∀ i, i < 32 → (L i).length < 900000) : ∀ k, k ≤ 32 → waitsN L k ≤ k * 900000 := by
  intro k
  induction k with
  | zero => intro _; simp [waitsN]
  | succ k ih =>
    intro hk
    rw [waitsN_succ]
    have := ih (by omega)
    have := hl k (by omega)
    omega
set_option maxRecDepth 100000 in
set_option maxHeartbeats 1000000 in
theorem wlen_c {w : World} {a : Nat} {vs : Nat → Value} {rs : Nat → Option Nat} {L : Nat → List Int} (h : WtAt w a vs rs L) (hl : ∀ i, i < 32 → (L i).length < 900000) :
    Calls Try.prog 48 #[.pointer (some ⟨a, 0, none⟩)] w fun e w' => e = .returned (.int .i64 (waitsN L 32)) ∧ w = w' := by
  have H := Lib.hid h
  have Hb := Lib.hid h.blk.out
  have Hl := Lib.hid hl
  clear h hl
  go_enter Try.func48, Try.ntmps48
  go_wp2_with (refine wpList_load_row rfl 98 (.tmp 10) rfl a rfl _ _ _ _ Hb.out Try.underlying98 rfl (by kernel_rfl) ?_)
  go_wp2_with fail
  go_loop [3, 12] (fun v3 v12 => ∃ k : Nat, k ≤ 32 ∧ v12 = .int .i64 k ∧ v3 = .int .i64 (waitsN L k)) (fun _ v12 => 32 - (intOf v12).toNat)
  case atStart => exact ⟨0, by omega, rfl, rfl⟩
  case round =>
    obtain ⟨k, hk, rfl, rfl⟩ := hrel
    have hle := waitsN_le L Hl.out k hk
    by_cases hlt : k < 32
    · have hidx := run_index_one (P := Try.prog) 98 44 32 (arr32 vs) k (vs k) Try.underlying98 (fun _ => Try.isAgg44 _) (fun _ => Try.sizeOf44 _) hlt (arr32_get vs hlt)
      obtain ⟨A, cap, hv⟩ := (H.out.row k hlt).lenv
      rw [hv] at hidx
      have hlk := Hl.out k hlt
      have hkI : (k : Int) < 32 := by omega
      have Hs := Lib.hid (waitsN_succ L k)
      clear hv
      go_wp2_with fail
      go_round
      case rel => exact ⟨k + 1, by omega, by go_num, by rw [Hs.out]; go_num⟩
      case measure => simp [intOf]; omega
    · have hk32 : k = 32 := by omega
      subst hk32
      go_wp2_with fail
      go_ret
      exact ⟨rfl, rfl⟩
end Go.Proofs.Ytndldoamadmphaa
