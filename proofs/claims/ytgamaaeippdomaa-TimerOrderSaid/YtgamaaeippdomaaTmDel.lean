/- timer: Del, All. -/
import Derived.Test.YtgamaaeippdomaaTmSort
import Derived.WalkSpells
import Derived.Laws.StructEq
namespace Go.Proofs.Ytgamaaeippdomaa
open Go.RowKit

theorem wpList_append_anyN {P : Program} {w : World} {ops : Array Oper} {rest : List Oper} {o : Oper} {a : Act} {Q : Exit → Act → World → Prop} (hgd : o.guard = none) (s x : Operand) (t : TypeId)
    (ho : o.op = .call { callee := .builtin .append, args := #[s, x], argTypes := #[t, t] })
    (e : TypeId) (i : TypeInfo) (z : Value) (size bytes : Nat) (ht : P.underlying t = some (.slice e)) (hi : P.info? e = some i) (hz : i.zero = some z)
    (hsize : i.size = size) (hby : i.bytes = bytes) (hzs : z.cells.size = size) (hsz : 0 < size)
    (v : Value) (hs : a.eval s = v) (row : Option Nat) (n : Nat) (xs : List Value) (hrow : RowN w e size row v n xs)
    (ad : Addr) (m c : Nat) (news : List Value) (hx : a.eval x = .slice (some ad) m c) (hl : news.length = m * size) (hnews : ∀ j u, news[j]? = some u → w.cell? (ad.add j) = some u) (h1 : ∀ u ∈ news, u.oneCell' = true)
    (h63 : n + m ≤ maxLen) (hbytes : (n + m) * bytes ≤ 140737488355328)
    (h : ∀ v' row' w', RowN w' e size row' v' (n + m) (xs ++ news) → w.grownBy w' row → (row' = row ∨ row' = some w.heap.size) →
      wpList P ops Q rest (a.put o.dst v') w') : wpList P ops Q (o :: rest) a w :=
  wpList_plain hgd fun _ hK => by
    obtain ⟨hown, hrow⟩ := hrow
    obtain ⟨v', w', hr, h2, h3, h4, h5⟩ := run_append_own_at (P := P) w 0 t o.type e i z size bytes ht hi hz hsize hby hzs hsz v n xs hown ad m c news hl hnews h1 h63 hbytes (Nat.zero_le _)
    unfold Oper.wp execOp
    simp only [ho, resolve, invoke, builtin, Sem.run_bind, Sem.run_pure, Result.andThen_ok, List.map_toArray, List.map_cons, List.map_nil, hs, hx, hr]
    exact hK _ _ (h v' v'.ownBlock w' ⟨h2, rfl⟩ (hrow ▸ h3) (hrow ▸ h5))

theorem cells3_one (l : List Sl) : ∀ u ∈ cells3 l, u.oneCell' = true := by
  intro u hu
  unfold cells3 at hu
  obtain ⟨s, _, hs⟩ := List.mem_flatMap.1 hu
  simp at hs
  rcases hs with rfl | rfl | rfl <;> rfl
theorem slAt_news {w : World} {g cap : Nat} {l : List Sl} (h : SlAt w (some g) (.slice (some ⟨g, 0, none⟩) l.length cap) l) : ∀ j u, (cells3 l)[j]? = some u → w.cell? ((⟨g, 0, none⟩ : Addr).add j) = some u := by
  rcases h.form with ⟨h, _⟩ | ⟨g', cap', cur, hv, _, _, _, hb, _, ht⟩
  · cases h
  · injection hv with e1 _ _
    injection e1 with e1
    injection e1 with e1
    subst e1
    intro j u hj
    have := take_cell hb ht j u hj
    unfold Addr.add
    by_cases h0 : j = 0
    · subst h0; simpa using this
    · simpa [h0] using this

theorem RowN.empty (w : World) (e : TypeId) (size : Nat) : RowN (w.alloc (.cells #[] e)) e size (some w.heap.size) (.slice (some ⟨w.heap.size, 0, none⟩) 0 0) 0 [] :=
  ⟨⟨by simp, .inr ⟨w.heap.size, 0, #[], rfl, Nat.zero_le _, heap_alloc_new w _, Nat.le_refl _, by unfold maxLen; omega, by simp, by simp⟩⟩, rfl⟩
set_option maxRecDepth 100000 in
set_option maxHeartbeats 1000000 in
theorem clone_c {w : World} {g cap : Nat} {l : List Sl} (h : SlAt w (some g) (.slice (some ⟨g, 0, none⟩) l.length cap) l) (hl : l.length < 1000000) :
    Calls Try.prog 27 #[.slice (some ⟨g, 0, none⟩) l.length cap] w fun e w' => ∃ v row, e = .returned v ∧ SlAt w' row v l ∧ Upd (fun _ => False) w w' ∧ ∀ k, row = some k → w.heap.size ≤ k := by
  obtain ⟨i0, hi, hz0, hz1, hz2⟩ := info_parts (show Option.map (fun i => (i.zero, i.size, i.bytes)) (Try.prog.info? 57) = some (some (.agg #[.int .i64 0, .int .i64 0, .int .i64 0]), 3, 24) from by kernel_rfl)
  have H := Lib.hid h
  have hq := fun (w : World) => Lib.run_eql_slice_nil (P := Try.prog) w 50 57 (some ⟨g, 0, none⟩) l.length cap 0 0 Try.underlying50
  clear h
  go_enter Try.func27, Try.ntmps27
  go_wp2_with (at_builtin; refine wpList_append_anyN rfl (.tmp 5) (.tmp 6) 50 rfl 57 i0 (.agg #[.int .i64 0, .int .i64 0, .int .i64 0]) 3 24 Try.underlying50 hi hz0 hz1 hz2 rfl (by decide) _ rfl (some w.heap.size) 0 [] (RowN.empty _ _ _) ⟨g, 0, none⟩ l.length cap (cells3 l) rfl (cells3_len l) (slAt_news (RowN.alloc H.out _)) (cells3_one l) (by unfold maxLen; omega) (by omega) ?_)
  intro v' row' w1 hrow1 hg1 hat1
  have Hrow1 := Lib.hid hrow1
  have Hg1 := Lib.hid hg1
  have Hat1 := Lib.hid hat1
  clear hrow1 hg1 hat1
  go_wp2_with fail
  go_ret
  refine ⟨v', row', rfl, Hrow1.out, ((Upd.refl _ _).alloc _).grown Hg1.out (fun k hk => .inr (by injection hk with hk; omega)), fun k hk => ?_⟩
  rcases Hat1.out with e | e
  · rw [e] at hk; injection hk with hk; omega
  · rw [e] at hk; injection hk with hk; try simp at hk
    omega
theorem slAt_cells {w : World} {g cap : Nat} {l : List Sl} (h : SlAt w (some g) (.slice (some ⟨g, 0, none⟩) l.length cap) l) {i : Nat} (hi : i < l.length) :
    w.cell? ⟨g, i * 3, none⟩ = some (.int .i64 (at0 l i).when) ∧ w.cell? ⟨g, i * 3 + 1, none⟩ = some (.int .i64 (at0 l i).g) ∧ w.cell? ⟨g, i * 3 + 2, none⟩ = some (.int .i64 (at0 l i).seq) := by
  obtain ⟨g', cap', hv, _, a0, a1, a2, _, _⟩ := h.cells (at0_get hi)
  injection hv with e1 _ _
  injection e1 with e1
  injection e1 with e1
  subst e1
  exact ⟨a0, a1, a2⟩

def eqS (a b : Sl) : Bool := a.when == b.when && a.g == b.g && a.seq == b.seq
theorem eqS_iff (a b : Sl) : eqS a b = true ↔ a = b := by
  unfold eqS
  obtain ⟨x, y, z⟩ := a
  obtain ⟨x', y', z'⟩ := b
  simp
  constructor
  · rintro ⟨⟨rfl, rfl⟩, rfl⟩; exact ⟨rfl, rfl, rfl⟩
  · rintro ⟨rfl, rfl, rfl⟩; exact ⟨⟨rfl, rfl⟩, rfl⟩
theorem run_eqT (d : Nat) (a b a' b' : Int) (w : World) : (Op.equalIn (d + 1 + 1) 45 (.agg #[.int .i64 a, .int .i64 b]) (.agg #[.int .i64 a', .int .i64 b'])).run Try.prog w = .ok (a == a' && b == b') w := by
  have u3 := Try.underlying3
  have a3 := Try.isAgg3
  have z3 := Try.sizeOf3
  have u2 := Try.underlying2
  have a2 := Try.isAgg2
  have z2 := Try.sizeOf2
  rw [run_equalIn_agg w (d + 1) 45 _ _ (by kernel_rfl) (by kernel_rfl)]
  simp only [Program.fieldsOf, Try.underlying45]
  go_simp
  by_cases h1 : a = a' <;> by_cases h2 : b = b' <;> simp [h1, h2]
theorem run_eqS (a b : Sl) (w : World) : (binOp .eql 57 (.agg #[.int .i64 a.when, .int .i64 a.g, .int .i64 a.seq]) (.agg #[.int .i64 b.when, .int .i64 b.g, .int .i64 b.seq])).run Try.prog w = .ok (.bool (eqS a b)) w := by
  have u3 := Try.underlying3
  have a3 := Try.isAgg3
  have z3 := Try.sizeOf3
  have a4 := Try.isAgg45
  have z4 := Try.sizeOf45
  have e4 := fun d a b a' b' w => run_eqT d a b a' b' w
  rw [run_eql_struct, show (10000 : Nat) = 9997 + 1 + 1 + 1 from rfl, run_equalIn_agg w (9997 + 1 + 1) 57 _ _ (by kernel_rfl) (by kernel_rfl)]
  simp only [Program.fieldsOf, Try.underlying57]
  go_simp
  unfold eqS
  by_cases h1 : a.when = b.when <;> by_cases h2 : a.g = b.g <;> by_cases h3 : a.seq = b.seq <;> simp [h1, h2, h3]
set_option maxRecDepth 100000 in
set_option maxHeartbeats 1000000 in
theorem index_c {w : World} {g cap : Nat} {l : List Sl} {s : Sl} (h : SlAt w (some g) (.slice (some ⟨g, 0, none⟩) l.length cap) l) (hl : l.length < 1000000) (hs : s ∈ l) :
    Calls Try.prog 24 #[.slice (some ⟨g, 0, none⟩) l.length cap, s.v] w fun e w' => ∃ i : Nat, e = .returned (.int .i64 i) ∧ i < l.length ∧ at0 l i = s ∧ Upd (fun _ => False) w w' := by
  have H := Lib.hid h
  have Hs := Lib.hid hs
  have hgl : g < w.heap.size := RowN.lt h g rfl
  unfold Sl.v
  clear h hs
  go_enter Try.func24, Try.ntmps24
  go_wp2_with fail
  obtain ⟨b, hb⟩ : ∃ b, b = w.heap.size := ⟨_, rfl⟩
  rw [← hb]
  have hbox : Blk (w.alloc (.cells #[.int .i64 s.when, .int .i64 s.g, .int .i64 s.seq] 57)) b 57 #[.int .i64 s.when, .int .i64 s.g, .int .i64 s.seq] := Blk.new' _ _ _ hb
  have H1 := Lib.hid (show SlAt _ _ _ _ from RowN.alloc H.out (.cells #[.int .i64 s.when, .int .i64 s.g, .int .i64 s.seq] 57))
  have U1 := Lib.hid ((Upd.refl (fun _ => False) w).alloc (.cells #[.int .i64 s.when, .int .i64 s.g, .int .i64 s.seq] 57))
  generalize hw1 : w.alloc (.cells #[.int .i64 s.when, .int .i64 s.g, .int .i64 s.seq] 57) = w1 at *
  have b0 := hbox.cell 0
  have b1 := hbox.cell 1
  have b2 := hbox.cell 2
  simp at b0 b1 b2
  clear hbox hw1 hb
  go_loopw [8] (fun v8 wr => ∃ k : Nat, k ≤ l.length ∧ v8 = .int .i64 k ∧ (∀ j, j < k → at0 l j ≠ s) ∧ ∃ m, wr = w1.drewN m) (fun v8 _ => l.length - (intOf v8).toNat)
  case atStart => exact ⟨0, by omega, rfl, fun j hj => absurd hj (by omega), 0, rfl⟩
  case round =>
    obtain ⟨k, hk, rfl, hne, m, rfl⟩ := hrel
    have Hne := Lib.hid hne
    clear hne
    by_cases hlt : k < l.length
    · obtain ⟨c0, c1, c2⟩ := slAt_cells H1.out hlt
      have hkI : (k : Int) < (l.length : Int) := by omega
      have heq := fun w => run_eqS s (at0 l k) w
      have hgd := fun (w : World) (x y : Operand) (xs ys : Array Value) => run_eqGuard_agg (P := Try.prog) w .eql 57 x y xs ys (by kernel_rfl)
      cases hc : eqS s (at0 l k) with
      | false =>
        rw [hc] at heq
        have hne2 : ∀ j, j < k + 1 → at0 l j ≠ s := by
          intro j hj
          rcases Nat.lt_succ_iff_lt_or_eq.1 hj with h | h
          · exact Hne.out j h
          · intro e
            rw [h] at e
            rw [(eqS_iff s (at0 l k)).2 e.symm] at hc
            cases hc
        have Hne2 := Lib.hid hne2
        clear hc hne2
        go_wp2_with fail
        refine wp_still (by kernel_rfl) (by kernel_rfl) ?_
        repeat still_step
        refine wpStill_nil ?_
        clear heq hgd
        go_wp2_with fail
        go_roundw
        case rel => exact ⟨k + 1, by omega, by go_num, Hne2.out, m + 1, rfl⟩
        case measure => simp [intOf]; omega
      | true =>
        rw [hc] at heq
        have Hk := Lib.hid ((eqS_iff s (at0 l k)).1 hc).symm
        clear hc
        go_wp2_with fail
        refine wp_still (by kernel_rfl) (by kernel_rfl) ?_
        repeat still_step
        refine wpStill_nil ?_
        clear heq hgd
        go_wp2_with fail
        go_ret
        exact ⟨k, rfl, hlt, Hk.out, (U1.out.drewN m).drew⟩
    · exfalso
      obtain ⟨j, hj, e⟩ := mem_at0 Hs.out
      exact Hne.out j (by omega) e
end Go.Proofs.Ytgamaaeippdomaa
