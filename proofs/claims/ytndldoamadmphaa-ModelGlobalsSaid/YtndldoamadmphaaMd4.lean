/- The model's instructions that turn goroutines alone: exit, yield, move, zero, get, eq, jump, jeq, set, dec. -/
import Derived.Test.YtndldoamadmphaaMd3
namespace Go.Proofs.Ytndldoamadmphaa
open Go.RowKit

/-- What an instruction leaves: the model M', the commit's block cv'. -/
def OpPost (w : World) (c : Col) (m : Nat) (Y : Lay) (M : Mo) (vb : Nat) (w' : World) (cv' : Array Value) (M' : Mo) : Prop :=
  ∃ c' Y', ModelAt w' c' m Y' M' ∧ Blk w' vb 34 cv' ∧ Upd (fun k => (c k).1 < 7 ∨ k = vb) w w' ∧ Keep c c' w ∧ (∀ k, k < M.gs.length → Y'.gp k = Y.gp k) ∧ (∀ k, w.heap.size ≤ k → k < w'.heap.size → (c' k).1 < 7 ∨ (c' k).1 = 7)
def setG (M : Mo) (g : Nat) (x : Gor) : Mo := { M with gs := M.gs.set g x }

section
variable {w w' : World} {c : Col} {m : Nat} {Y : Lay} {M : Mo}
theorem ModelAt.setG (h : ModelAt w c m Y M) {g : Nat} (hg : g < M.gs.length) (x' : Gor) {E : Nat → Prop} (hb : Blk w' (Y.gp g) 77 (gorV x')) (hu : Upd (fun k => k = Y.gp g ∨ E k) w w') (hE : ∀ k, E k → (c k).1 = 7) :
    ModelAt w' c m Y (setG M g x') := by
  have hcg : c (Y.gp g) = (2, g + 1) := (h.gs.g g _ (gorAt_get hg)).2
  have hS : ∀ k, (k = Y.gp g ∨ E k) → (c k).1 = 2 ∨ (c k).1 = 7 := by
    rintro k (rfl | e)
    · rw [hcg]; exact .inl rfl
    · exact .inr (hE k e)
  have hn : ∀ j, j ≠ 2 → j ≠ 7 → ∀ k, (k = Y.gp g ∨ E k) → (c k).1 ≠ j := fun j h2 h7 k e => by rcases hS k e with e | e <;> rw [e] <;> omega
  refine ⟨h.blk.upd hu (fun e => ?_), h.cm, h.prog.frame hu (Keep.refl _ _) (hn 8 (by decide) (by decide)), h.st.frame hu (Keep.refl _ _) (hn 1 (by decide) (by decide)), ?_, h.gl.frame hu (Keep.refl _ _) (hn 3 (by decide) (by decide)),
    h.sl.frame hu (Keep.refl _ _) (hn 4 (by decide) (by decide)), h.tm.frame hu (Keep.refl _ _) (hn 5 (by decide) (by decide)), h.wt.frame hu (Keep.refl _ _) (hn 6 (by decide) (by decide)), fun k hk => h.free k (Nat.le_trans hu.size hk)⟩
  · exact hn 0 (by decide) (by decide) m e (by rw [h.cm])
  · obtain ⟨⟨row, h1, h2⟩, h3⟩ := h.gs
    refine ⟨⟨row, ?_, h2⟩, fun i x hi => ?_⟩
    · have h4 := h1.upd hu (fun k hk e => by
        rcases e with e | e
        · have := h2 k hk
          rw [e, hcg] at this
          cases this
        · have := h2 k hk
          have := hE k e
          simp_all)
      simp only [Ytndldoamadmphaa.setG, List.length_set]
      exact h4
    · simp only [Ytndldoamadmphaa.setG, List.getElem?_set] at hi
      by_cases e : g = i
      · subst e
        rw [if_pos rfl, if_pos hg] at hi
        injection hi with hi
        subst hi
        exact ⟨hb, hcg⟩
      · rw [if_neg e] at hi
        obtain ⟨h4, h5⟩ := h3 i x hi
        refine ⟨h4.upd hu (fun e2 => ?_), h5⟩
        rcases e2 with e2 | e2
        · rw [e2, hcg] at h5
          injection h5 with _ h5
          omega
        · have := hE _ e2
          rw [h5] at this
          cases this

/-- An instruction that turns the goroutine alone. -/
theorem op_gorB {w1 : World} {vb : Nat} {cv : Array Value} (h : ModelAt w c m Y M) (hv : Blk w vb 34 cv) (hvc : (c vb).1 = 7) {g : Nat} (hg : g < M.gs.length) (x' : Gor) (hb : Blk w1 (Y.gp g) 77 (gorV x'))
    (hu : Upd (fun k => k = Y.gp g) w w1) : OpPost w c m Y M vb w1 cv (Ytndldoamadmphaa.setG M g x') := by
  obtain ⟨hxb, hcg⟩ := h.gs.g g _ (gorAt_get hg)
  have hall : Upd (fun k => k = Y.gp g ∨ False) w w1 := hu.mono (fun _ e => .inl (.inl e))
  have hne : vb ≠ Y.gp g := fun e => by rw [e, hcg] at hvc; cases hvc
  refine ⟨c, Y, h.setG hg x' hb hall (fun _ e => e.elim), hv.upd hu hne, hall.mono (fun k e => .inl (.inl ?_)), Keep.refl _ _, fun _ _ => rfl, fun k hk _ => .inr (h.free k hk)⟩
  rcases e with rfl | e
  · rw [hcg]; show 2 < 7; omega
  · exact e.elim
/-- An instruction that stores one of the goroutine's cells. -/
theorem op_gor {w1 : World} {vb : Nat} {cv : Array Value} (h : ModelAt w c m Y M) (hv : Blk w vb 34 cv) (hvc : (c vb).1 = 7) {g : Nat} (hg : g < M.gs.length) (j : Nat) (u : Value) (x' : Gor) (hx : (gorV (gorAt M g)).setIfInBounds j u = gorV x')
    (hu : Upd (fun _ => False) (w.setCell ⟨Y.gp g, j, none⟩ u) w1) : OpPost w c m Y M vb w1 cv (Ytndldoamadmphaa.setG M g x') :=
  op_gorB h hv hvc hg x' (by rw [← hx]; exact ((h.gs.g g _ (gorAt_get hg)).1.set_ j u).upd hu (fun e => e))
    (((Upd.refl (fun k => k = Y.gp g) w).setCell (p := ⟨Y.gp g, j, none⟩) (.inl rfl) _).trans hu (fun _ e => e.elim))
/-- .. behind what was laid. -/
theorem op_gorS {w1 : World} {vb : Nat} {cv : Array Value} (h : ModelAt w c m Y M) (hv : Blk w vb 34 cv) (hvc : (c vb).1 = 7) {g : Nat} (hg : g < M.gs.length) (j : Nat) (u : Value) (x' : Gor) (hx : (gorV (gorAt M g)).setIfInBounds j u = gorV x')
    (hu : Upd (fun _ => False) w w1) : OpPost w c m Y M vb (w1.setCell ⟨Y.gp g, j, none⟩ u) cv (Ytndldoamadmphaa.setG M g x') :=
  op_gorB h hv hvc hg x' (by rw [← hx]; exact ((h.gs.g g _ (gorAt_get hg)).1.upd hu (fun e => e)).set_ j u)
    ((hu.mono (fun _ e => e.elim)).trans ((Upd.refl (fun k => k = Y.gp g) w1).setCell (p := ⟨Y.gp g, j, none⟩) (.inl rfl) _) (fun _ e => .inl e))
/-- An instruction that turns nothing of the model. -/
theorem op_none {w1 : World} {vb : Nat} {cv : Array Value} (h : ModelAt w c m Y M) (hv : Blk w vb 34 cv) (hu : Upd (fun _ => False) w w1) : OpPost w c m Y M vb w1 cv M :=
  ⟨c, Y, h.frame hu (fun _ e => e.elim), hv.upd hu (fun e => e), hu.mono (fun _ e => e.elim), Keep.refl _ _, fun _ _ => rfl, fun k hk _ => .inr (h.free k hk)⟩
/-- An instruction that tells a value alone. -/
theorem op_val {w1 : World} {vb : Nat} {cv : Array Value} (h : ModelAt w c m Y M) (hv : Blk w vb 34 cv) (hvc : (c vb).1 = 7) (u : Value) (hu : Upd (fun _ => False) (w.setCell ⟨vb, 4, none⟩ u) w1) : OpPost w c m Y M vb w1 (cv.setIfInBounds 4 u) M := by
  have hset : Upd (fun k => k = vb) w (w.setCell ⟨vb, 4, none⟩ u) := (Upd.refl (fun k => k = vb) w).setCell (p := ⟨vb, 4, none⟩) (.inl rfl) _
  have hall : Upd (fun k => k = vb) w w1 := hset.trans hu (fun _ e => e.elim)
  exact ⟨c, Y, h.frame hall (fun k e => by rw [e]; exact hvc), (hv.set_ 4 u).upd hu (fun e => e), hall.mono (fun k e => .inl (.inr e)), Keep.refl _ _, fun _ _ => rfl, fun k hk _ => .inr (h.free k hk)⟩
theorem op_valS {w1 : World} {vb : Nat} {cv : Array Value} (h : ModelAt w c m Y M) (hv : Blk w vb 34 cv) (hvc : (c vb).1 = 7) (u : Value) (hu : Upd (fun _ => False) w w1) : OpPost w c m Y M vb (w1.setCell ⟨vb, 4, none⟩ u) (cv.setIfInBounds 4 u) M := by
  have hset : Upd (fun k => k = vb) w1 (w1.setCell ⟨vb, 4, none⟩ u) := (Upd.refl (fun k => k = vb) w1).setCell (p := ⟨vb, 4, none⟩) (.inl rfl) _
  have hall : Upd (fun k => k = vb) w (w1.setCell ⟨vb, 4, none⟩ u) := (hu.mono (fun _ e => e.elim)).trans hset (fun _ e => .inl e)
  exact ⟨c, Y, h.frame hall (fun k e => by rw [e]; exact hvc), (hv.upd hu (fun e => e)).set_ 4 u, hall.mono (fun k e => .inl (.inr e)), Keep.refl _ _, fun _ _ => rfl, fun k hk _ => .inr (h.free k hk)⟩
end

section
variable {w : World} {c : Col} {m : Nat} {Y : Lay} {M : Mo} {vb g : Nat} {cv : Array Value}
theorem oexit_c (h : ModelAt w c m Y M) (hv : Blk w vb 34 cv) (i : In) : Calls Try.prog 55 #[.pointer (some ⟨m, 0, none⟩), .int .i64 g, .pointer (some ⟨Y.gp g, 0, none⟩), i.v, .pointer (some ⟨vb, 4, none⟩)] w fun e w' => e = .returned (.int .i64 5) ∧ OpPost w c m Y M vb w' cv M := by
  have H := Lib.hid h
  have Hv := Lib.hid hv
  unfold In.v
  clear h hv
  go_enter Try.func55, Try.ntmps55
  go_wp2
  go_ret
  exact ⟨rfl, op_none H.out Hv.out ((Upd.refl _ _).alloc _)⟩
theorem oyield_c (h : ModelAt w c m Y M) (hv : Blk w vb 34 cv) (i : In) : Calls Try.prog 64 #[.pointer (some ⟨m, 0, none⟩), .int .i64 g, .pointer (some ⟨Y.gp g, 0, none⟩), i.v, .pointer (some ⟨vb, 4, none⟩)] w fun e w' => e = .returned (.int .i64 1) ∧ OpPost w c m Y M vb w' cv M := by
  have H := Lib.hid h
  have Hv := Lib.hid hv
  unfold In.v
  clear h hv
  go_enter Try.func64, Try.ntmps64
  go_wp2
  go_ret
  exact ⟨rfl, op_none H.out Hv.out ((Upd.refl _ _).alloc _)⟩
def stk (x : Gor) (k : Nat) (v : Int) : Gor := { x with stack := upN x.stack k v }
set_option maxRecDepth 100000 in
set_option maxHeartbeats 1000000 in
theorem ozero_c (h : ModelAt w c m Y M) (hv : Blk w vb 34 cv) (hvc : (c vb).1 = 7) (hg : g < M.gs.length) (i : In) {a : Nat} (ha : i.a = a) (ha2 : a < 16) :
    Calls Try.prog 60 #[.pointer (some ⟨m, 0, none⟩), .int .i64 g, .pointer (some ⟨Y.gp g, 0, none⟩), i.v, .pointer (some ⟨vb, 4, none⟩)] w fun e w' => e = .returned (.int .i64 1) ∧ OpPost w c m Y M vb w' cv (setG M g (stk (gorAt M g) a 0)) := by
  have H := Lib.hid h
  have Hv := Lib.hid hv
  have hxb := (h.gs.g g _ (gorAt_get hg)).1
  have hxl := hxb.lt
  have x0 := hxb.cell (3 + a)
  rw [gorV_stack _ ha2] at x0
  have f0 := hxb.frozen (3 + a)
  have haI : (a : Int) < 16 := by omega
  unfold In.v
  rw [ha]
  clear h hv hxb ha
  go_enter Try.func60, Try.ntmps60
  go_wp2_with fail
  go_region
  go_wp2_with fail
  go_ret
  exact ⟨rfl, op_gor H.out Hv.out hvc hg (3 + a) _ _ (gorV_set _ _ _ ha2) (((Upd.refl _ _).alloc _).drew)⟩
set_option maxRecDepth 100000 in
set_option maxHeartbeats 1000000 in
theorem omove_c (h : ModelAt w c m Y M) (hv : Blk w vb 34 cv) (hvc : (c vb).1 = 7) (hg : g < M.gs.length) (i : In) {a b : Nat} (ha : i.a = a) (ha2 : a < 16) (hb : i.b = b) (hb2 : b < 16) :
    Calls Try.prog 59 #[.pointer (some ⟨m, 0, none⟩), .int .i64 g, .pointer (some ⟨Y.gp g, 0, none⟩), i.v, .pointer (some ⟨vb, 4, none⟩)] w fun e w' => e = .returned (.int .i64 1) ∧ OpPost w c m Y M vb w' cv (setG M g (stk (gorAt M g) a ((gorAt M g).stack b))) := by
  have H := Lib.hid h
  have Hv := Lib.hid hv
  have hxb := (h.gs.g g _ (gorAt_get hg)).1
  have hxl := hxb.lt
  have x0 := hxb.cell (3 + a)
  rw [gorV_stack _ ha2] at x0
  have x1 := hxb.cell (3 + b)
  rw [gorV_stack _ hb2] at x1
  have f0 := hxb.frozen (3 + a)
  have haI : (a : Int) < 16 := by omega
  have hbI : (b : Int) < 16 := by omega
  unfold In.v
  rw [ha, hb]
  clear h hv hxb ha hb
  go_enter Try.func59, Try.ntmps59
  go_wp2_with fail
  go_region
  go_wp2_with fail
  go_ret
  exact ⟨rfl, op_gor H.out Hv.out hvc hg (3 + a) _ _ (gorV_set _ _ _ ha2) (((Upd.refl _ _).alloc _).drew)⟩
set_option maxRecDepth 100000 in
set_option maxHeartbeats 1000000 in
theorem oget_c (h : ModelAt w c m Y M) (hv : Blk w vb 34 cv) (hvc : (c vb).1 = 7) (hg : g < M.gs.length) (i : In) {a b : Nat} (ha : i.a = a) (ha2 : a < 16) (hb : i.b = b) (hb2 : b < M.gl.length) :
    Calls Try.prog 61 #[.pointer (some ⟨m, 0, none⟩), .int .i64 g, .pointer (some ⟨Y.gp g, 0, none⟩), i.v, .pointer (some ⟨vb, 4, none⟩)] w fun e w' => e = .returned (.int .i64 1) ∧ OpPost w c m Y M vb w' cv (setG M g (stk (gorAt M g) a (M.gl.getD b 0))) := by
  have H := Lib.hid h
  have Hv := Lib.hid hv
  have hxb := (h.gs.g g _ (gorAt_get hg)).1
  have hxl := hxb.lt
  have x0 := hxb.cell (3 + a)
  rw [gorV_stack _ ha2] at x0
  obtain ⟨grow, hgrow, hgcol⟩ := h.gl
  obtain ⟨gb, gcap, hgv, hgr, hgbl, hgc, _⟩ := hgrow.at_ (ints_get hb2)
  obtain ⟨u0, hu0⟩ : ∃ u, u = M.gl.getD b 0 := ⟨_, rfl⟩
  rw [← hu0] at hgc ⊢
  rw [show (ints M.gl).length = M.gl.length by simp [ints]] at hgv
  have c4 := h.c4
  rw [hgv] at c4
  have hml := h.blk.lt
  have hne : gb ≠ Y.gp g := fun e => by
    have h1 := hgcol gb hgr
    have h2 := (h.gs.g g _ (gorAt_get hg)).2
    rw [e, h2] at h1
    cases h1
  have f0 := hxb.frozen (3 + a)
  have haI : (a : Int) < 16 := by omega
  have hbI : (b : Int) < (M.gl.length : Int) := by omega
  unfold In.v
  rw [ha, hb]
  clear h hv hxb ha hb hgrow hgcol hgv hgr hu0
  go_enter Try.func61, Try.ntmps61
  go_wp2_with fail
  go_region
  go_wp2_with fail
  go_ret
  exact ⟨rfl, op_gor H.out Hv.out hvc hg (3 + a) _ _ (gorV_set _ _ _ ha2) (((Upd.refl _ _).alloc _).drew)⟩
def pcG (x : Gor) (v : Int) : Gor := { x with pc := v }
def cntG (x : Gor) (v : Int) : Gor := { x with count := v }
set_option maxRecDepth 100000 in
set_option maxHeartbeats 1000000 in
theorem ojump_c (h : ModelAt w c m Y M) (hv : Blk w vb 34 cv) (hvc : (c vb).1 = 7) (hg : g < M.gs.length) (i : In) :
    Calls Try.prog 69 #[.pointer (some ⟨m, 0, none⟩), .int .i64 g, .pointer (some ⟨Y.gp g, 0, none⟩), i.v, .pointer (some ⟨vb, 4, none⟩)] w fun e w' => e = .returned (.int .i64 1) ∧ OpPost w c m Y M vb w' cv (setG M g (pcG (gorAt M g) i.a)) := by
  have H := Lib.hid h
  have Hv := Lib.hid hv
  have hxb := (h.gs.g g _ (gorAt_get hg)).1
  have hxl := hxb.lt
  have x0 : w.cell? ⟨Y.gp g, 1, none⟩ = some (.int .i64 (gorAt M g).pc) := hxb.cell 1
  have f0 := hxb.frozen 1
  unfold In.v
  clear h hv hxb
  go_enter Try.func69, Try.ntmps69
  go_wp2_with fail
  go_ret
  exact ⟨rfl, op_gor H.out Hv.out hvc hg 1 _ _ (gorV_pc _ _) ((Upd.refl _ _).alloc _)⟩
set_option maxRecDepth 100000 in
set_option maxHeartbeats 1000000 in
theorem oset_c (h : ModelAt w c m Y M) (hv : Blk w vb 34 cv) (hvc : (c vb).1 = 7) (hg : g < M.gs.length) (i : In) (ha : 0 ≤ i.a ∧ i.a < 256) (hb : 0 ≤ i.b ∧ i.b < 256) :
    Calls Try.prog 71 #[.pointer (some ⟨m, 0, none⟩), .int .i64 g, .pointer (some ⟨Y.gp g, 0, none⟩), i.v, .pointer (some ⟨vb, 4, none⟩)] w fun e w' => e = .returned (.int .i64 1) ∧ OpPost w c m Y M vb w' cv (setG M g (cntG (gorAt M g) (256 * i.a + i.b))) := by
  have H := Lib.hid h
  have Hv := Lib.hid hv
  have hxb := (h.gs.g g _ (gorAt_get hg)).1
  have hxl := hxb.lt
  have x0 : w.cell? ⟨Y.gp g, 2, none⟩ = some (.int .i64 (gorAt M g).count) := hxb.cell 2
  have f0 := hxb.frozen 2
  obtain ⟨ha1, ha2⟩ := ha
  obtain ⟨hb1, hb2⟩ := hb
  unfold In.v
  clear h hv hxb
  go_enter Try.func71, Try.ntmps71
  go_wp2_with fail
  go_ret
  exact ⟨rfl, op_gor H.out Hv.out hvc hg 2 _ _ (gorV_count _ _) ((Upd.refl _ _).alloc _)⟩
set_option maxRecDepth 100000 in
set_option maxHeartbeats 1000000 in
theorem odec_no (h : ModelAt w c m Y M) (hv : Blk w vb 34 cv) (hg : g < M.gs.length) (i : In) (h0 : ¬ 0 < (gorAt M g).count) :
    Calls Try.prog 72 #[.pointer (some ⟨m, 0, none⟩), .int .i64 g, .pointer (some ⟨Y.gp g, 0, none⟩), i.v, .pointer (some ⟨vb, 4, none⟩)] w fun e w' => e = .returned (.int .i64 1) ∧ OpPost w c m Y M vb w' cv M := by
  have H := Lib.hid h
  have Hv := Lib.hid hv
  have hxb := (h.gs.g g _ (gorAt_get hg)).1
  have hxl := hxb.lt
  have x0 : w.cell? ⟨Y.gp g, 2, none⟩ = some (.int .i64 (gorAt M g).count) := hxb.cell 2
  have h1 : decide (0 < (gorAt M g).count) = false := by simpa using h0
  unfold In.v
  clear h hv hxb
  go_enter Try.func72, Try.ntmps72
  go_wp2_with fail
  go_ret
  exact ⟨rfl, op_none H.out Hv.out ((Upd.refl _ _).alloc _)⟩
set_option maxRecDepth 100000 in
set_option maxHeartbeats 1000000 in
theorem oeq_c (h : ModelAt w c m Y M) (hv : Blk w vb 34 cv) (hvc : (c vb).1 = 7) (hcv : ∃ u : Int, cv[4]? = some (.int .i64 u)) (hg : g < M.gs.length) (i : In) {a b : Nat} (ha : i.a = a) (ha2 : a < 16) (hb : i.b = b) (hb2 : b < 16) :
    Calls Try.prog 68 #[.pointer (some ⟨m, 0, none⟩), .int .i64 g, .pointer (some ⟨Y.gp g, 0, none⟩), i.v, .pointer (some ⟨vb, 4, none⟩)] w fun e w' => e = .returned (.int .i64 1) ∧ OpPost w c m Y M vb w' (if (gorAt M g).stack a = (gorAt M g).stack b then cv.setIfInBounds 4 (.int .i64 1) else cv) M := by
  have H := Lib.hid h
  have Hv := Lib.hid hv
  have hxb := (h.gs.g g _ (gorAt_get hg)).1
  have hxl := hxb.lt
  have x0 := hxb.cell (3 + a)
  rw [gorV_stack _ ha2] at x0
  have x1 := hxb.cell (3 + b)
  rw [gorV_stack _ hb2] at x1
  have haI : (a : Int) < 16 := by omega
  have hbI : (b : Int) < 16 := by omega
  obtain ⟨u0, hu0⟩ := hcv
  have v4 := (hv.cell 4).trans hu0
  have vf := hv.frozen 4
  have hvl := hv.lt
  unfold In.v
  rw [ha, hb]
  by_cases he : (gorAt M g).stack a = (gorAt M g).stack b
  · have heb : ((gorAt M g).stack a == (gorAt M g).stack b) = true := by simpa using he
    rw [if_pos he]
    clear h hv hxb ha hb he hu0
    go_enter Try.func68, Try.ntmps68
    go_wp2_with fail
    go_quiet (fail)
    go_wp2_with fail
    go_ret
    exact ⟨rfl, op_valS H.out Hv.out hvc _ (((Upd.refl _ _).alloc _).drewN _)⟩
  · have heb : ((gorAt M g).stack a == (gorAt M g).stack b) = false := by simpa using he
    rw [if_neg he]
    clear h hv hxb ha hb he hu0
    go_enter Try.func68, Try.ntmps68
    go_wp2_with fail
    go_quiet (fail)
    go_wp2_with fail
    go_ret
    exact ⟨rfl, op_none H.out Hv.out (((Upd.refl _ _).alloc _).drewN _)⟩
set_option maxRecDepth 100000 in
set_option maxHeartbeats 1000000 in
theorem ojeq_c (h : ModelAt w c m Y M) (hv : Blk w vb 34 cv) (hvc : (c vb).1 = 7) (hg : g < M.gs.length) (i : In) {a b : Nat} (ha : i.a = a) (ha2 : a < 16) (hb : i.b = b) (hb2 : b < 16) :
    Calls Try.prog 70 #[.pointer (some ⟨m, 0, none⟩), .int .i64 g, .pointer (some ⟨Y.gp g, 0, none⟩), i.v, .pointer (some ⟨vb, 4, none⟩)] w fun e w' => e = .returned (.int .i64 1) ∧ OpPost w c m Y M vb w' cv (if (gorAt M g).stack a = (gorAt M g).stack b then setG M g (pcG (gorAt M g) i.c) else M) := by
  have H := Lib.hid h
  have Hv := Lib.hid hv
  have hxb := (h.gs.g g _ (gorAt_get hg)).1
  have hxl := hxb.lt
  have x0 := hxb.cell (3 + a)
  rw [gorV_stack _ ha2] at x0
  have x1 := hxb.cell (3 + b)
  rw [gorV_stack _ hb2] at x1
  have xp : w.cell? ⟨Y.gp g, 1, none⟩ = some (.int .i64 (gorAt M g).pc) := hxb.cell 1
  have fp := hxb.frozen 1
  have haI : (a : Int) < 16 := by omega
  have hbI : (b : Int) < 16 := by omega
  unfold In.v
  rw [ha, hb]
  by_cases he : (gorAt M g).stack a = (gorAt M g).stack b
  · have heb : ((gorAt M g).stack a == (gorAt M g).stack b) = true := by simpa using he
    rw [if_pos he]
    clear h hv hxb ha hb he
    go_enter Try.func70, Try.ntmps70
    go_wp2_with fail
    go_quiet (fail)
    go_wp2_with fail
    go_ret
    exact ⟨rfl, op_gorS H.out Hv.out hvc hg 1 _ _ (gorV_pc _ _) (((Upd.refl _ _).alloc _).drewN _)⟩
  · have heb : ((gorAt M g).stack a == (gorAt M g).stack b) = false := by simpa using he
    rw [if_neg he]
    clear h hv hxb ha hb he
    go_enter Try.func70, Try.ntmps70
    go_wp2_with fail
    go_quiet (fail)
    go_wp2_with fail
    go_ret
    exact ⟨rfl, op_none H.out Hv.out (((Upd.refl _ _).alloc _).drewN _)⟩
set_option maxRecDepth 100000 in
set_option maxHeartbeats 1000000 in
theorem odec_yes (h : ModelAt w c m Y M) (hv : Blk w vb 34 cv) (hvc : (c vb).1 = 7) (hg : g < M.gs.length) (i : In) (h0 : 0 < (gorAt M g).count) (h1 : (gorAt M g).count < 1000000) :
    Calls Try.prog 72 #[.pointer (some ⟨m, 0, none⟩), .int .i64 g, .pointer (some ⟨Y.gp g, 0, none⟩), i.v, .pointer (some ⟨vb, 4, none⟩)] w fun e w' => e = .returned (.int .i64 1) ∧ OpPost w c m Y M vb w' cv (setG M g (pcG (cntG (gorAt M g) ((gorAt M g).count - 1)) i.a)) := by
  have H := Lib.hid h
  have Hv := Lib.hid hv
  have hxb := (h.gs.g g _ (gorAt_get hg)).1
  have hxl := hxb.lt
  have x0 : w.cell? ⟨Y.gp g, 2, none⟩ = some (.int .i64 (gorAt M g).count) := hxb.cell 2
  have x1 : w.cell? ⟨Y.gp g, 1, none⟩ = some (.int .i64 (gorAt M g).pc) := hxb.cell 1
  have f0 := hxb.frozen 2
  have f1 := hxb.frozen 1
  have Hxb := Lib.hid hxb
  unfold In.v
  clear h hv hxb
  go_enter Try.func72, Try.ntmps72
  go_wp2_with fail
  go_ret
  refine ⟨rfl, op_gorB H.out Hv.out hvc hg _ ?_ ((((Upd.refl (fun k => k = Y.gp g) w).setCell (p := ⟨Y.gp g, 2, none⟩) (.inl rfl) _).setCell (p := ⟨Y.gp g, 1, none⟩) (.inl rfl) _).alloc _)⟩
  unfold pcG
  rw [← gorV_pc]
  unfold cntG
  rw [← gorV_count]
  exact ((Hxb.out.set_ 2 _).set_ 1 _).alloc _
end
end Go.Proofs.Ytndldoamadmphaa
