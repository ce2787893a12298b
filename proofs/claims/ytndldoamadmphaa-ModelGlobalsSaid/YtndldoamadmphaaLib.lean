/- Words of my own for the walks of this seat: 'Upd S w w'' (only blocks in S may have turned, new ones may have come), and its laws. -/
import Derived.Test.YtndldoamadmphaaRows
import Derived.WalkKit
import Derived.Lib.Hide
import Derived.Maps.AppendAt
import Derived.Deep.QuietTactic
import Derived.BigQuiet
import Derived.StillTailTactics
namespace Go.Proofs.Ytndldoamadmphaa
open Go.RowKit

/-- Of the blocks of w none has turned but those in S; the streams are as they were; nothing has gone. -/
structure Upd (S : Nat → Prop) (w w' : World) : Prop where
  os : w'.os = w.os
  tape : w'.tape = w.tape
  output : w'.output = w.output
  size : w.heap.size ≤ w'.heap.size
  block : ∀ k, k < w.heap.size → ¬ S k → w'.heap[k]? = w.heap[k]?

section
variable {S S' S'' : Nat → Prop} {a w w' w'' : World}
theorem Upd.refl (S : Nat → Prop) (w : World) : Upd S w w := ⟨rfl, rfl, rfl, Nat.le_refl _, fun _ _ _ => rfl⟩
theorem Upd.trans (h : Upd S w w') (k : Upd S' w' w'') (hs : ∀ i, S' i → S i ∨ w.heap.size ≤ i) : Upd S w w'' :=
  ⟨k.os.trans h.os, k.tape.trans h.tape, k.output.trans h.output, Nat.le_trans h.size k.size, fun i hi hn =>
    (k.block i (Nat.lt_of_lt_of_le hi h.size) (fun e => (hs i e).elim hn (fun l => by omega))).trans (h.block i hi hn)⟩
theorem Upd.mono (h : Upd S w w') (hs : ∀ i, S i → S' i ∨ w.heap.size ≤ i) : Upd S' w w' :=
  ⟨h.os, h.tape, h.output, h.size, fun i hi hn => h.block i hi (fun e => (hs i e).elim hn (fun l => by omega))⟩
theorem Upd.drew (h : Upd S a w) : Upd S a w.drew := ⟨h.os, h.tape, h.output, h.size, h.block⟩
theorem Upd.drewN (h : Upd S a w) (n : Nat) : Upd S a (w.drewN n) := ⟨h.os, h.tape, h.output, h.size, h.block⟩
theorem Upd.alloc (h : Upd S a w) (o : Obj) : Upd S a (w.alloc o) :=
  h.trans (S' := fun _ => False) ⟨rfl, rfl, rfl, by simp, fun k hk _ => Below.heap_alloc _ _ _ hk⟩ (fun _ h => h.elim)
theorem Upd.setCell (h : Upd S a w) {p : Addr} (hp : S p.block ∨ a.heap.size ≤ p.block) (u : Value) : Upd S a (w.setCell p u) :=
  h.trans (S' := fun k => k = p.block) ⟨rfl, rfl, rfl, by simp [World.setCell], fun k _ hk => Below.heap_setCell _ _ _ _ hk⟩ (fun i e => by subst e; exact hp)
theorem Upd.grown (h : Upd S a w) {row : Option Nat} (hg : w.grownBy w' row) (hr : ∀ k, row = some k → S k ∨ a.heap.size ≤ k) : Upd S a w' :=
  h.trans (S' := fun k => row = some k) ⟨hg.os, hg.tape, hg.output, hg.size, fun k hk hn => hg.block k hk (fun e => hn e.symm)⟩ (fun i e => hr i e)
theorem Upd.of_below (h : Below w.heap.size w w') : Upd S w w' := ⟨h.os, h.tape, h.output, h.size, fun k hk _ => h.block k hk⟩
theorem Upd.below (h : Upd (fun k => w.heap.size ≤ k) w w') : Below w.heap.size w w' := ⟨h.os, h.tape, h.output, h.size, fun k hk => h.block k hk (by omega)⟩
theorem Upd.below' (h : Upd (fun _ => False) w w') : Below w.heap.size w w' := ⟨h.os, h.tape, h.output, h.size, fun k hk => h.block k hk (fun e => e)⟩
theorem Upd.cell (h : Upd S w w') {b : Nat} (hb : b < w.heap.size) (hn : ¬ S b) (o : Nat) : w'.cell? ⟨b, o, none⟩ = w.cell? ⟨b, o, none⟩ :=
  World.cell?_of_block (w := w) (h.block b hb hn)
theorem Upd.frozen (h : Upd S w w') {b : Nat} (hb : b < w.heap.size) (hn : ¬ S b) (o : Nat) : w'.frozen? ⟨b, o, none⟩ = w.frozen? ⟨b, o, none⟩ :=
  World.frozen?_of_block (w := w) (h.block b hb hn)
end

/-- The block g is just these cells, none of them frozen. -/
def Blk (w : World) (g : Nat) (t : TypeId) (cs : Array Value) : Prop := w.heap[g]? = some (.cells cs t (0, 0))
section
variable {w w' : World} {g : Nat} {t : TypeId} {cs : Array Value} {S : Nat → Prop}
theorem Blk.out (h : Blk w g t cs) : w.heap[g]? = some (.cells cs t (0, 0)) := h
theorem Blk.lt (h : Blk w g t cs) : g < w.heap.size := (Array.getElem?_eq_some_iff.1 h).1
theorem Blk.cell (h : Blk w g t cs) (i : Nat) : w.cell? ⟨g, i, none⟩ = cs[i]? := cell_of_row w g i cs t (0, 0) h
theorem Blk.frozen (h : Blk w g t cs) (i : Nat) : w.frozen? ⟨g, i, none⟩ = false := by
  unfold Blk at h
  simp [World.frozen?, h]
theorem Blk.new (w : World) (t : TypeId) (cs : Array Value) : Blk (w.alloc (.cells cs t)) w.heap.size t cs := heap_alloc_new w _
theorem Blk.new' (w : World) (t : TypeId) (cs : Array Value) (h : g = w.heap.size) : Blk (w.alloc (.cells cs t)) g t cs := by rw [h]; exact Blk.new w t cs
theorem Blk.drew (h : Blk w g t cs) : Blk w.drew g t cs := h
theorem Blk.drewN (h : Blk w g t cs) (n : Nat) : Blk (w.drewN n) g t cs := h
theorem Blk.alloc (h : Blk w g t cs) (o : Obj) : Blk (w.alloc o) g t cs := (Below.heap_alloc w o g h.lt).trans h
theorem Blk.set_ (h : Blk w g t cs) (i : Nat) (u : Value) : Blk (w.setCell ⟨g, i, none⟩ u) g t (cs.setIfInBounds i u) := by
  unfold Blk at h ⊢
  simp [World.setCell, Array.getElem?_modify, h]
theorem Blk.far (h : Blk w g t cs) {p : Addr} (hp : g ≠ p.block) (u : Value) : Blk (w.setCell p u) g t cs := (Below.heap_setCell w p u g hp).trans h
theorem Blk.upd (h : Blk w g t cs) (hu : Upd S w w') (hn : ¬ S g) : Blk w' g t cs := (hu.block g h.lt hn).trans h
theorem Blk.grown {row : Option Nat} (h : Blk w g t cs) (hb : w.grownBy w' row) (hg : some g ≠ row) : Blk w' g t cs := (hb.block g h.lt hg).trans h
theorem Blk.inj {t' : TypeId} {cs' : Array Value} (h : Blk w g t cs) (h' : Blk w g t' cs') : t = t' ∧ cs = cs' := by
  unfold Blk at h h'
  rw [h] at h'
  injection h' with h'
  injection h' with h1 h2
  exact ⟨h2, h1⟩
end

/-- A list in memory: nil (and empty), or at the head of a block of its own that holds it (with spare places behind). 'row' is that block. -/
def Row (w : World) (e : TypeId) (row : Option Nat) (v : Value) (xs : List Value) : Prop :=
  w.ownsRow 0 e 1 v xs.length xs ∧ v.ownBlock = row
section
variable {w w' : World} {e : TypeId} {row : Option Nat} {v : Value} {xs : List Value} {S : Nat → Prop}
theorem Row.lt (h : Row w e row v xs) : ∀ k, row = some k → k < w.heap.size := fun k hk => (h.1.lt k (h.2.trans hk)).2
theorem Row.nil (w : World) (e : TypeId) : Row w e none (.slice none 0 0) [] := ⟨World.ownsRow_nil w 0 e 1, rfl⟩
theorem Row.upd (h : Row w e row v xs) (hu : Upd S w w') (hn : ∀ k, row = some k → ¬ S k) : Row w' e row v xs := by
  refine ⟨⟨h.1.1, ?_⟩, h.2⟩
  rcases h.1.2 with h2 | ⟨g, cap, cur, hv, hg, hh, r⟩
  · exact .inl h2
  · refine .inr ⟨g, cap, cur, hv, hg, ?_, r⟩
    rw [hu.block g (Array.getElem?_eq_some_iff.1 hh).1 (hn g (by rw [← h.2, hv]; rfl))]
    exact hh
/-- How the value reads. -/
theorem Row.form (h : Row w e row v xs) : (v = .slice none 0 0 ∧ xs = [] ∧ row = none) ∨
    ∃ g cap, v = .slice (some ⟨g, 0, none⟩) xs.length cap ∧ row = some g ∧ xs.length ≤ cap ∧ cap ≤ maxLen ∧ g < w.heap.size ∧
      (∀ (i : Nat) (u : Value), xs[i]? = some u → w.cell? ⟨g, i, none⟩ = some u) ∧ (∀ i : Nat, w.frozen? ⟨g, i, none⟩ = false) := by
  rcases h.1.2 with ⟨hv, h0⟩ | ⟨g, cap, cur, hv, hg, hh, hc, hm, hs, ht⟩
  · left
    refine ⟨hv, List.eq_nil_of_length_eq_zero h0, ?_⟩
    rw [← h.2, hv]; rfl
  · right
    refine ⟨g, cap, hv, by rw [← h.2, hv]; rfl, hc, hm, (Array.getElem?_eq_some_iff.1 hh).1, fun i u hi => ?_, fun i => by simp [World.frozen?, hh]⟩
    rw [cell_of_row w g i cur e (0, 0) hh, ← Array.getElem?_toList]
    rw [← ht] at hi
    rw [List.getElem?_take] at hi
    split at hi
    · exact hi
    · cases hi
theorem Row.block (h : Row w e row v xs) {g : Nat} (hg : row = some g) : ∃ cap cur, v = .slice (some ⟨g, 0, none⟩) xs.length cap ∧ Blk w g e cur ∧ xs.length ≤ cap ∧ cap ≤ maxLen ∧ cur.size = cap ∧ cur.toList.take xs.length = xs := by
  rcases h.1.2 with ⟨hv, h0⟩ | ⟨g', cap, cur, hv, _, hh, hc, hm, hs, ht⟩
  · have := h.2; rw [hv, hg] at this; cases this
  · have := h.2
    rw [hv, hg] at this
    simp [Value.ownBlock] at this
    subst this
    exact ⟨cap, cur, hv, hh, hc, hm, by simpa using hs, by simpa using ht⟩
theorem Row.of_block {g cap : Nat} {cur : Array Value} (hh : Blk w g e cur) (hc : xs.length ≤ cap) (hm : cap ≤ maxLen) (hs : cur.size = cap) (ht : cur.toList.take xs.length = xs) :
    Row w e (some g) (.slice (some ⟨g, 0, none⟩) xs.length cap) xs :=
  ⟨⟨by simp, .inr ⟨g, cap, cur, rfl, Nat.zero_le _, hh, hc, hm, by simpa using hs, by simpa using ht⟩⟩, rfl⟩
/-- A store into one of its places. -/
theorem Row.set_ (h : Row w e row v xs) {g : Nat} (hg : row = some g) (i : Nat) (u : Value) : Row (w.setCell ⟨g, i, none⟩ u) e row v (xs.set i u) := by
  obtain ⟨cap, cur, hv, hh, hc, hm, hs, ht⟩ := h.block hg
  have h2 := hh.set_ i u
  have := Row.of_block (xs := xs.set i u) (cap := cap) h2 (by simpa using hc) hm (by simpa using hs) (by
    rw [Array.toList_setIfInBounds, List.length_set]
    rw [List.take_set, ht])
  rw [List.length_set] at this
  rw [hv, hg]
  exact this
theorem Row.fits (h : Row w e row v xs) : xs.length ≤ maxLen := by
  rcases h.form with ⟨_, rfl, _⟩ | ⟨g, cap, _, _, hc, hm, _⟩
  · simp
  · omega
end

/-- A whole array (or struct) stored at a block's head. -/
theorem wpList_store_row {P : Program} {ops : Array Oper} {rest : List Oper} {o : Oper} {a : Act} {w : World} {Q : Exit → Act → World → Prop} (hgd : o.guard = none) (ty : TypeId) (x y : Operand) (ho : o.op = .store ty x y)
    (g : Nat) (hx : a.eval x = .pointer (some ⟨g, 0, none⟩)) (cs' : Array Value) (hy : a.eval y = .agg cs') (t : TypeId) (cs : Array Value) (hg : w.heap[g]? = some (.cells cs t (0, 0)))
    (hi : (P.info? ty).map (·.size) = some cs'.size) (hsz : cs.size = cs'.size) (h1 : cs'.all (·.oneCell') = true)
    (h : wpList P ops Q rest (a.put o.dst undef) (w.setRow g cs')) : wpList P ops Q (o :: rest) a w :=
  wpList_plain hgd fun _ hK => by
    unfold Oper.wp execOp
    simp only [ho, hx, hy, Instr.storeAt, Instr.sureAddr, Sem.run_bind, Sem.run_pure, Result.andThen_ok, run_storeVar_row w g t ty cs cs' hg hi hsz h1]
    exact hK _ _ h
theorem Blk.setRow {w : World} {g : Nat} {t : TypeId} {cs : Array Value} (h : Blk w g t cs) (cs' : Array Value) : Blk (w.setRow g cs') g t cs' := setRow_heap w g cs cs' t _ h
theorem Upd.setRow {S : Nat → Prop} {a w : World} (h : Upd S a w) {g : Nat} (hp : S g ∨ a.heap.size ≤ g) (cs : Array Value) : Upd S a (w.setRow g cs) :=
  h.trans (S' := fun k => k = g) ⟨rfl, rfl, rfl, by simp, fun k _ hk => setRow_other w g k cs hk⟩ (fun i e => by subst e; exact hp)

/-- A list in memory whose elements take 'size' cells each: n elements, their cells xs. -/
def RowN (w : World) (e : TypeId) (size : Nat) (row : Option Nat) (v : Value) (n : Nat) (xs : List Value) : Prop :=
  w.ownsRow 0 e size v n xs ∧ v.ownBlock = row
theorem RowN.nil (w : World) (e : TypeId) (size : Nat) : RowN w e size none (.slice none 0 0) 0 [] := ⟨World.ownsRow_nil w 0 e size, rfl⟩
theorem RowN.lt {w : World} {e : TypeId} {size : Nat} {row : Option Nat} {v : Value} {n : Nat} {xs : List Value} (h : RowN w e size row v n xs) : ∀ k, row = some k → k < w.heap.size := fun k hk => (h.1.lt k (h.2.trans hk)).2
theorem RowN.upd {w w' : World} {e : TypeId} {size : Nat} {row : Option Nat} {v : Value} {n : Nat} {xs : List Value} {S : Nat → Prop} (h : RowN w e size row v n xs) (hu : Upd S w w') (hn : ∀ k, row = some k → ¬ S k) : RowN w' e size row v n xs := by
  refine ⟨⟨h.1.1, ?_⟩, h.2⟩
  rcases h.1.2 with h2 | ⟨g, cap, cur, hv, hg, hh, r⟩
  · exact .inl h2
  · refine .inr ⟨g, cap, cur, hv, hg, ?_, r⟩
    rw [hu.block g (Array.getElem?_eq_some_iff.1 hh).1 (hn g (by rw [← h.2, hv]; rfl))]
    exact hh
theorem Row.alloc {w : World} {e : TypeId} {row : Option Nat} {v : Value} {xs : List Value} (h : Row w e row v xs) (o : Obj) : Row (w.alloc o) e row v xs := ⟨h.1.alloc o, h.2⟩
theorem RowN.alloc {w : World} {e : TypeId} {size : Nat} {row : Option Nat} {v : Value} {n : Nat} {xs : List Value} (h : RowN w e size row v n xs) (o : Obj) : RowN (w.alloc o) e size row v n xs := ⟨h.1.alloc o, h.2⟩

theorem wpList_append_rowN {P : Program} {w : World} {ops : Array Oper} {rest : List Oper} {o : Oper} {a : Act} {Q : Exit → Act → World → Prop} (hgd : o.guard = none) (s x : Operand) (t : TypeId)
    (ho : o.op = .call { callee := .builtin .append, args := #[s, x], argTypes := #[t, t] })
    (e : TypeId) (i : TypeInfo) (z : Value) (size bytes : Nat) (ht : P.underlying t = some (.slice e)) (hi : P.info? e = some i) (hz : i.zero = some z)
    (hsize : i.size = size) (hby : i.bytes = bytes) (hzs : z.cells.size = size) (hsz : 0 < size)
    (v : Value) (hs : a.eval s = v) (row : Option Nat) (n : Nat) (xs : List Value) (hrow : RowN w e size row v n xs)
    (ad : Addr) (m c : Nat) (news : List Value) (hx : a.eval x = .slice (some ad) m c) (hl : news.length = m * size) (hnews : ∀ j u, news[j]? = some u → w.cell? (ad.add j) = some u) (h1 : ∀ u ∈ news, u.oneCell' = true)
    (hm : 0 < n + m) (h63 : n + m ≤ maxLen) (hbytes : (n + m) * bytes ≤ 140737488355328)
    (h : ∀ g cap w', RowN w' e size (some g) (.slice (some ⟨g, 0, none⟩) (n + m) cap) (n + m) (xs ++ news) → w.grownBy w' row → (row = some g ∨ g = w.heap.size) → g < w'.heap.size →
      wpList P ops Q rest (a.put o.dst (.slice (some ⟨g, 0, none⟩) (n + m) cap)) w') : wpList P ops Q (o :: rest) a w :=
  wpList_plain hgd fun _ hK => by
    obtain ⟨hown, hrow⟩ := hrow
    obtain ⟨v', w', hr, h2, h3, h4, h5⟩ := run_append_own_at (P := P) w 0 t o.type e i z size bytes ht hi hz hsize hby hzs hsz v n xs hown ad m c news hl hnews h1 h63 hbytes (Nat.zero_le _)
    unfold Oper.wp execOp
    simp only [ho, resolve, invoke, builtin, Sem.run_bind, Sem.run_pure, Result.andThen_ok, List.map_toArray, List.map_cons, List.map_nil, hs, hx, hr]
    rcases h2.2 with ⟨_, h0⟩ | ⟨g, cap, cur, rfl, _, hh, _⟩
    · omega
    · refine hK _ _ (h g cap w' ⟨h2, rfl⟩ (hrow ▸ h3) ?_ (Array.getElem?_eq_some_iff.1 hh).1)
      simp only [Value.ownBlock] at h5
      rcases h5 with h5 | h5
      · left; rw [← hrow]; exact h5.symm
      · right; injection h5
theorem wpList_append_anyN {P : Program} {w : World} {ops : Array Oper} {rest : List Oper} {o : Oper} {a : Act} {Q : Exit → Act → World → Prop} (hgd : o.guard = none) (s x : Operand) (t : TypeId)
    (ho : o.op = .call { callee := .builtin .append, args := #[s, x], argTypes := #[t, t] })
    (e : TypeId) (i : TypeInfo) (z : Value) (size bytes : Nat) (ht : P.underlying t = some (.slice e)) (hi : P.info? e = some i) (hz : i.zero = some z)
    (hsize : i.size = size) (hby : i.bytes = bytes) (hzs : z.cells.size = size) (hsz : 0 < size)
    (v : Value) (hs : a.eval s = v) (row : Option Nat) (n : Nat) (xs : List Value) (hrow : RowN w e size row v n xs)
    (ad : Addr) (m c : Nat) (news : List Value) (hx : a.eval x = .slice (some ad) m c) (hl : news.length = m * size) (hnews : ∀ j u, news[j]? = some u → w.cell? (ad.add j) = some u) (h1 : ∀ u ∈ news, u.oneCell' = true)
    (h63 : n + m ≤ maxLen) (hbytes : (n + m) * bytes ≤ 140737488355328)
    (h : ∀ v' row' w', RowN w' e size row' v' (n + m) (xs ++ news) → w.grownBy w' row → (row' = row ∨ row' = some w.heap.size) →
      wpList P ops Q rest (a.put o.dst v') w') : wpList P ops Q (o :: rest) a w :=
  wpList_plain hgd fun _ hK => by
    obtain ⟨hown, hrow⟩ := hrow
    obtain ⟨v', w', hr, h2, h3, h4, h5⟩ := run_append_own_at (P := P) w 0 t o.type e i z size bytes ht hi hz hsize hby hzs hsz v n xs hown ad m c news hl hnews h1 h63 hbytes (Nat.zero_le _)
    unfold Oper.wp execOp
    simp only [ho, resolve, invoke, builtin, Sem.run_bind, Sem.run_pure, Result.andThen_ok, List.map_toArray, List.map_cons, List.map_nil, hs, hx, hr]
    exact hK _ _ (h v' v'.ownBlock w' ⟨h2, rfl⟩ (hrow ▸ h3) (hrow ▸ h5))

theorem RowN.empty (w : World) (e : TypeId) (size : Nat) : RowN (w.alloc (.cells #[] e)) e size (some w.heap.size) (.slice (some ⟨w.heap.size, 0, none⟩) 0 0) 0 [] :=
  ⟨⟨by simp, .inr ⟨w.heap.size, 0, #[], rfl, Nat.zero_le _, heap_alloc_new w _, Nat.le_refl _, by unfold maxLen; omega, by simp, by simp⟩⟩, rfl⟩
theorem Row.toN {w : World} {e : TypeId} {row : Option Nat} {v : Value} {xs : List Value} (h : Row w e row v xs) : RowN w e 1 row v xs.length xs := h
theorem RowN.to1 {w : World} {e : TypeId} {row : Option Nat} {v : Value} {n : Nat} {xs : List Value} (h : RowN w e 1 row v n xs) : Row w e row v xs := by
  have := h.1.1
  simp at this
  exact ⟨by rw [this]; exact h.1, h.2⟩

theorem news_one (w : World) (u : Value) (t : TypeId) : ∀ (j : Nat) (x : Value), [u][j]? = some x → (w.alloc (.cells #[u] t)).cell? ((⟨w.heap.size, 0, none⟩ : Addr).add j) = some x := by
  intro j x hj
  match j, hj with
  | 0, hj => simp at hj; subst hj; simp [Addr.add]
theorem oneCell_one {u : Value} (h : u.oneCell' = true) : ∀ x ∈ [u], x.oneCell' = true := by
  intro x hx
  simp at hx
  subst hx
  exact h

/-- A region that draws its order, all of whose operations but the tail from n on only read: walked in the text's order. -/
theorem wp_still_tail {P : Program} {id : Nat} {Q : Exit → Act → World → Prop} {a : Act} {w : World} {l : List Oper} (n : Nat) (hm : P.follows .mixedOrders = true) (hB : Region.lexTailB .any l.toArray n = true)
    (h : wpStill P l.toArray w.drew (fun a' => wpList P l.toArray Q (l.drop n) a' w.drew) (l.take n) a) : (Code.region id l.toArray true).wp P Q a w :=
  wp_region_still_tail n hm hB h

def ints (l : List Int) : List Value := l.map (Value.int .i64)
/-- A list in new memory. -/
def NewRow (w w' : World) (e : TypeId) (v : Value) (xs : List Value) : Prop := ∃ r, Row w' e r v xs ∧ ∀ k, r = some k → w.heap.size ≤ k

theorem ret_int {k : IntKind} {a b : Int} (h : a = b) : Ending.returned (.int k a) = .returned (.int k b) := by rw [h]
end Go.Proofs.Ytndldoamadmphaa
