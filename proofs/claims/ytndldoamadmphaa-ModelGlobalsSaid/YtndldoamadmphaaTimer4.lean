/- container/heap over the sleepers: up, down. -/
import Derived.Test.YtndldoamadmphaaTimer3
namespace Go.Proofs.Ytndldoamadmphaa
open Go.RowKit

def lessAt (l : List Sl) (i j : Nat) : Bool :=
  match l[i]?, l[j]? with
  | some a, some b => lessS a b
  | _, _ => false
def swapL (l : List Sl) (i j : Nat) : List Sl :=
  match l[i]?, l[j]? with
  | some a, some b => (l.set i b).set j a
  | _, _ => l
theorem swapL_len (l : List Sl) (i j : Nat) : (swapL l i j).length = l.length := by
  unfold swapL
  split <;> simp
def upL (l : List Sl) (j : Nat) : List Sl :=
  if _h : j = 0 then l else if lessAt l j ((j - 1) / 2) then upL (swapL l ((j - 1) / 2) j) ((j - 1) / 2) else l
termination_by j
decreasing_by omega
def pickL (l : List Sl) (i n : Nat) : Nat := if 2 * i + 2 < n ∧ lessAt l (2 * i + 2) (2 * i + 1) = true then 2 * i + 2 else 2 * i + 1
theorem pickL_lt (l : List Sl) (i n : Nat) : i < pickL l i n := by
  unfold pickL
  split <;> omega
def downL (l : List Sl) (i n : Nat) : List Sl × Nat :=
  if _h : n ≤ 2 * i + 1 then (l, i) else if lessAt l (pickL l i n) i then downL (swapL l i (pickL l i n)) (pickL l i n) n else (l, i)
termination_by n - i
decreasing_by have := pickL_lt l i n; omega

theorem wrapChk (ts : Array TypeId) (r : TypeId) (a : Addr) (s1 s2 : String) (w : World) : Sem.run Try.prog (Builtin.ssaWrapNilChk_ ts r #[.pointer (some a), strVal s1, strVal s2]) w = .ok (.pointer (some a)) w := rfl
theorem methVia {w : World} {t : Nat} {v : Value} {nm : String} {f : FuncId} (h : w.cell? ⟨t, 0, none⟩ = some v)
    (hf : (Array.find? (fun x => x.name == nm) Try.t108.methods).map (fun m => (m.path, m.func)) = some (#[], some (f, false))) (n : Nat) :
    Sem.run Try.prog (method (n+1) 108 (.pointer (some ⟨t, 0, none⟩)) nm) w = .ok (f, v) w := by
  cases hm : Array.find? (fun x => x.name == nm) Try.t108.methods with
  | none => rw [hm] at hf; cases hf
  | some m =>
    rw [hm] at hf
    simp at hf
    unfold method
    simp [go_sem, hm, hf.1, hf.2, follow, receiverAt, h, Place.get, wrapChk]
theorem methPtr (w : World) (p : Value) {nm : String} {f : FuncId}
    (hf : (Array.find? (fun x => x.name == nm) Try.t108.methods).map (fun m => (m.path, m.func)) = some (#[], some (f, true))) (n : Nat) :
    Sem.run Try.prog (method (n+1) 108 p nm) w = .ok (f, p) w := by
  cases hm : Array.find? (fun x => x.name == nm) Try.t108.methods with
  | none => rw [hm] at hf; cases hf
  | some m =>
    rw [hm] at hf
    simp at hf
    unfold method
    simp [go_sem, hm, hf.1, hf.2, follow, receiverAt, Place.get]

/-- A heap with somebody in it. -/
theorem HAt.some {w : World} {t : Nat} {row : Option Nat} {v : Value} {l : List Sl} {made : Int} (h : HAt w t row v l made) (hl : 0 < l.length) : ∃ g cap, v = .slice (some ⟨g, 0, none⟩) l.length cap ∧ row = some g := by
  rcases h.row.form with ⟨_, h0, _⟩ | ⟨g, cap, _, hv, hr, _⟩
  · omega
  · exact ⟨g, cap, hv, hr⟩

theorem HAt.upd {w w' : World} {t : Nat} {row : Option Nat} {v : Value} {l : List Sl} {made : Int} {S : Nat → Prop} (h : HAt w t row v l made) (hu : Upd S w w') (ht : ¬ S t) (hr : ∀ k, row = .some k → ¬ S k) : HAt w' t row v l made :=
  ⟨h.blk.upd hu ht, RowN.upd h.row hu hr⟩
theorem swapH_c {w : World} {t g n cap : Nat} {l : List Sl} {made : Int} (h : HAt w t (some g) (.slice (some ⟨g, 0, none⟩) n cap) l made) (hn : l.length = n) {i j : Nat} (hi : i < n) (hj : j < n) {ii jj : Int} (hii : (i : Int) = ii) (hjj : (j : Int) = jj) :
    Calls Try.prog 108 #[.slice (some ⟨g, 0, none⟩) n cap, .int .i64 ii, .int .i64 jj] w fun e w' => e = .returned (.tuple #[]) ∧ HAt w' t (some g) (.slice (some ⟨g, 0, none⟩) n cap) (swapL l i j) made ∧ Upd (fun k => k = g) w w' := by
  subst hii hjj hn
  have hai : l[i]? = some l[i] := List.getElem?_eq_getElem hi
  have hbj : l[j]? = some l[j] := List.getElem?_eq_getElem hj
  refine (swap_c h.row hai hbj).mono ?_
  rintro e w' ⟨rfl, h1, hu⟩
  have hgt : t ≠ g := fun e => h.ne (by rw [e])
  refine ⟨rfl, ⟨h.blk.upd hu hgt, ?_⟩, hu⟩
  unfold swapL
  rw [hai, hbj]
  exact h1
theorem lessH_c {w : World} {t : Nat} {row : Option Nat} {v : Value} {l : List Sl} {made : Int} (h : HAt w t row v l made) {i j : Nat} (hi : i < l.length) (hj : j < l.length) {ii jj : Int} (hii : (i : Int) = ii) (hjj : (j : Int) = jj) :
    Calls Try.prog 107 #[v, .int .i64 ii, .int .i64 jj] w fun e w' => e = .returned (.bool (lessAt l i j)) ∧ Upd (fun _ => False) w w' := by
  subst hii hjj
  have hai : l[i]? = some l[i] := List.getElem?_eq_getElem hi
  have hbj : l[j]? = some l[j] := List.getElem?_eq_getElem hj
  unfold lessAt
  rw [hai, hbj]
  exact less_c h.row hai hbj

set_option maxRecDepth 100000 in
set_option maxHeartbeats 1000000 in
theorem up_c {w : World} {t g cap : Nat} {l : List Sl} {made : Int} (h : HAt w t (some g) (.slice (some ⟨g, 0, none⟩) l.length cap) l made) {j : Nat} (hj : j < l.length) (hl : l.length < 1000000) :
    Calls Try.prog 86 #[.iface 108 (.pointer (some ⟨t, 0, none⟩)), .int .i64 j] w fun e w' => e = .returned (.tuple #[]) ∧
      HAt w' t (some g) (.slice (some ⟨g, 0, none⟩) l.length cap) (upL l j) made ∧ Upd (fun k => k = g) w w' := by
  have H := Lib.hid h
  have Hj := Lib.hid hj
  clear h hj
  go_enter Try.func86, Try.ntmps86
  go_wp2_with fail
  go_loopw [1] (fun v1 wr => ∃ (j' : Nat) (l' : List Sl), v1 = .int .i64 j' ∧ HAt wr t (some g) (.slice (some ⟨g, 0, none⟩) l.length cap) l' made ∧ l'.length = l.length ∧ j' < l.length ∧ upL l' j' = upL l j ∧ Upd (fun k => k = g) w wr) (fun v1 _ => (intOf v1).toNat)
  case atStart => exact ⟨j, l, rfl, H.out, rfl, Hj.out, rfl, Upd.refl _ _⟩
  case round =>
    obtain ⟨j', l', rfl, hh, hlen, hj', hup, hu⟩ := hrel
    have Hh := Lib.hid hh
    have Hup := Lib.hid hup
    have Hlen := Lib.hid hlen
    have c0 : wr.cell? ⟨t, 0, none⟩ = some (.slice (some ⟨g, 0, none⟩) l.length cap) := hh.blk.cell 0
    clear hh hup hlen
    by_cases h0 : j' = 0
    · subst h0
      go_wp2_with fail
      go_end0
      exact ⟨rfl, by rw [← Hup.out, upL, dif_pos rfl]; exact Hh.out, hu⟩
    · obtain ⟨k, rfl⟩ : ∃ k, j' = k + 1 := ⟨j' - 1, by omega⟩
      have mL := methVia (nm := "Less") (f := 107) c0 (by kernel_rfl)
      have hne : ((k : Int) / 2 == (k : Int) + 1) = false := by simp; omega
      have e2 : ((k / 2 : Nat) : Int) = (k : Int) / 2 := by omega
      have e1 : ((k + 1 : Nat) : Int) = (k : Int) + 1 := by omega
      have Hless := Lib.hid (lessH_c Hh.out (i := k + 1) (j := k / 2) (by rw [Hlen.out]; omega) (by rw [Hlen.out]; omega) e1 e2)
      clear e1 e2
      cases hab : lessAt l' (k + 1) (k / 2) with
      | false =>
        have Hab := Lib.hid hab
        go_wp2_with (refine Hless.out.mono ?_; rw [hab]; rintro e w1 ⟨rfl, u1⟩)
        go_end0
        refine ⟨rfl, ?_, hu.trans u1 (fun _ h => h.elim)⟩
        rw [← Hup.out, upL, dif_neg (by omega), Nat.add_sub_cancel, if_neg (by rw [Hab.out]; simp)]
        exact Hh.out.upd u1 (fun e => e) (fun _ _ e => e)
      | true =>
        have Hab := Lib.hid hab
        go_wp2_with (
          refine Hless.out.mono ?_; rw [hab]; rintro e w1 ⟨rfl, u1⟩
          have h1 : HAt w1 _ _ _ _ _ := Hh.out.upd u1 (fun e => e) (fun _ _ e => e)
          have c1 : w1.cell? ⟨t, 0, none⟩ = some (.slice (some ⟨g, 0, none⟩) l.length cap) := h1.blk.cell 0
          have mS := methVia (nm := "Swap") (f := 108) c1 (by kernel_rfl)
          have Hsw := Lib.hid (swapH_c h1 Hlen.out (i := k / 2) (j := k + 1) (by omega) (by omega) (by omega) (by omega) (ii := (k : Int) / 2) (jj := (k : Int) + 1))
          clear h1)
        go_wp2_with (refine Hsw.out.mono ?_; rintro e w2 ⟨rfl, h2, u2⟩)
        go_roundw
        case rel =>
          refine ⟨k / 2, swapL l' (k / 2) (k + 1), by go_num, h2, by rw [swapL_len]; exact Hlen.out, by omega, ?_, (hu.trans u1 (fun _ h => h.elim)).trans u2 (fun _ h => .inl h)⟩
          rw [← Hup.out, upL.eq_def l' (k + 1), dif_neg (by omega), Nat.add_sub_cancel, if_pos Hab.out]
        case measure => simp [intOf]; omega
end Go.Proofs.Ytndldoamadmphaa
