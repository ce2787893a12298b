/- Regions that draw their order: a forced head, then operations that only read (their callees leave the world as it is), then a forced tail. -/
import Derived.Test.YtndldoamadmphaaLib
import Derived.Deep.RegionLaw
namespace Go.Proofs.Ytndldoamadmphaa
open Go.RowKit
section
variable {P : Program} {ops : Array Oper} {md : Region.Mode} {Q : Exit → Act → World → Prop}

theorem wp_of_then {cont : Act → World → Prop} {o : Oper} {a : Act} {w : World} {K : Act → World → Prop} (h : o.wp P a w K (Exit.then cont Q)) : o.wp P a w K Q := by
  unfold Oper.wp at h ⊢
  generalize (execOp a.eval o).run P w = r at h ⊢
  cases r with
  | ok n w' =>
    cases n <;> simp only [Oper.upon] at h ⊢ <;> first | exact h | (refine Calls.mono h (fun e w'' he => ?_); cases e <;> exact he)
  | halt x w' => cases x <;> simp only [Oper.upon] at h ⊢ <;> exact h

/-- From what stands listed the next n operations come up one by one, in the text's order; 'out' is what is listed then. -/
def seqHead (md : Region.Mode) (ops : Array Oper) : Nat → Nat → Array Bool → Bool
  | 0, _, _ => true
  | g + 1, k, listed => decide (Region.ready md ops listed = [k]) && seqHead md ops g (k + 1) (listed.setIfInBounds k true)
def listedTo : Nat → Nat → Array Bool → Array Bool
  | 0, _, listed => listed
  | g + 1, k, listed => listedTo g (k + 1) (listed.setIfInBounds k true)

theorem wpAny_of_head2 {g : Nat} {cont : Act → World → Prop} : ∀ (l : List Oper) (k : Nat) (listed : Array Bool) (a : Act) (w : World), (∀ j, j < l.length → l[j]? = ops[k + j]?) →
    seqHead md ops l.length k listed = true → (∀ a w, cont a w → wpAny P md ops Q g (listedTo l.length k listed) a w) → wpList P ops (Exit.then cont Q) l a w → wpAny P md ops Q (l.length + g) listed a w
  | [], _, _, _, _, _, _, hc, h => by rw [List.length_nil, Nat.zero_add]; exact hc _ _ h
  | o :: l, k, listed, a, w, hl, hB, hc, h => by
    have h0 : ops[k]? = some o := by simpa using (hl 0 (by simp)).symm
    simp only [List.length_cons, seqHead, Bool.and_eq_true, decide_eq_true_eq] at hB
    rw [show (o :: l).length + g = (l.length + g) + 1 by simp only [List.length_cons]; omega]
    refine ⟨fun h1 => (by rw [hB.1] at h1; cases h1), fun i hi => ?_⟩
    rw [hB.1] at hi
    have hik : i = k := by simpa using hi
    subst hik
    have hw : wpOp P ops Q i (wpList P ops (Exit.then cont Q) l) a w := by
      unfold wpOp
      simp only [h0]
      unfold wpList at h
      split
      · rename_i hw
        rw [if_pos hw] at h
        exact h.imp wp_of_then (fun ⟨x, a', w', y⟩ => ⟨x, a', w', y⟩)
      · rename_i hw
        rw [if_neg hw] at h
        exact h
    refine wpOp_mono (fun a' w' h' => wpAny_of_head2 l (i + 1) _ a' w' (fun j hj => ?_) hB.2 (fun a w h => hc a w h) h') hw
    have := hl (j + 1) (by simp only [List.length_cons]; omega)
    simpa [Nat.add_assoc, Nat.add_comm 1 j] using this

def headStillB (ops : Array Oper) (n : Nat) : Bool :=
  Region.noSelect ops && decide (n ≤ ops.size) && seqHead .any ops n 0 (Array.replicate ops.size false) && Region.lexFrom .any ops (ops.size - n) n (listedTo n 0 (Array.replicate ops.size false))

/-- A forced head of n operations, then operations that only read. -/
theorem wp_head_still {id : Nat} {a : Act} {w : World} {l : List Oper} (n : Nat) (hm : P.follows .mixedOrders = true) (hB : headStillB l.toArray n = true)
    (h : wpList P l.toArray (Exit.then (fun a' w' => wpStill P l.toArray w' (fun a'' => Q .normal a'' w') (l.drop n) a') Q) (l.take n) a w.drew) : (Code.region id l.toArray true).wp P Q a w := by
  simp only [headStillB, Bool.and_eq_true, decide_eq_true_eq] at hB
  obtain ⟨⟨⟨hs, hn⟩, hh⟩, hx⟩ := hB
  have hn' : n ≤ l.length := by simpa using hn
  have htl : (l.take n).length = n := by simp; omega
  have hdl : (l.drop n).length = l.toArray.size - n := by simp
  refine wp_region_any hm ?_
  have key := wpAny_of_head2 (P := P) (Q := Q) (md := .any) (ops := l.toArray) (g := l.toArray.size - n)
    (cont := fun a' w' => wpStill P l.toArray w' (fun a'' => Q .normal a'' w') (l.drop n) a') (l.take n) 0 (Array.replicate l.toArray.size false) a w.drew
    (fun j hj => by
      rw [htl] at hj
      simp [hj]) (by rw [htl]; exact hh) (fun a' w' hc => by
      rw [htl]
      refine wpAny_of_still (Q := fun a'' => Q .normal a'' w') (fun _ h => h) _ _ _ ?_
      have := wpAnyS_lex (P := P) (w := w') (md := .any) (Q := fun a'' => Q .normal a'' w') hs (l.drop n) n (listedTo n 0 (Array.replicate l.toArray.size false)) a' (fun j => by simp [List.getElem?_drop]) (by rw [hdl]; exact hx) hc
      rw [hdl] at this
      exact this) h
  rw [htl, show n + (l.toArray.size - n) = l.toArray.size by have : n ≤ l.toArray.size := hn; omega] at key
  exact key
theorem still_of {f : FuncId} {args : Array Value} {w : World} {v : Value} (h : Calls P f args w fun e w' => e = .returned v ∧ w = w') : Calls P f args w fun e w' => e = .returned v ∧ w' = w :=
  h.mono fun _ _ ⟨he, hw⟩ => ⟨he, hw.symm⟩
/-- All of them only read. -/
theorem wp_still {id : Nat} {a : Act} {w : World} {l : List Oper} (hm : P.follows .mixedOrders = true) (hB : Region.lexB .any l.toArray = true)
    (h : wpStill P l.toArray w.drew (fun a' => Q .normal a' w.drew) l a) : (Code.region id l.toArray true).wp P Q a w := wp_region_still_lit hm hB h
end
theorem step_append_rowN {P : Program} {w : World} {ops : Array Oper} {o : Oper} {a : Act} {K : Act → World → Prop} {Q : Exit → Act → World → Prop} {E : Prop} (hgd : o.guard = none) (s x : Operand) (t : TypeId)
    (ho : o.op = .call { callee := .builtin .append, args := #[s, x], argTypes := #[t, t] })
    (e : TypeId) (i : TypeInfo) (z : Value) (size bytes : Nat) (ht : P.underlying t = some (.slice e)) (hi : P.info? e = some i) (hz : i.zero = some z)
    (hsize : i.size = size) (hby : i.bytes = bytes) (hzs : z.cells.size = size) (hsz : 0 < size)
    (v : Value) (hs : a.eval s = v) (row : Option Nat) (n : Nat) (xs : List Value) (hrow : RowN w e size row v n xs)
    (ad : Addr) (m c : Nat) (news : List Value) (hx : a.eval x = .slice (some ad) m c) (hl : news.length = m * size) (hnews : ∀ j u, news[j]? = some u → w.cell? (ad.add j) = some u) (h1 : ∀ u ∈ news, u.oneCell' = true)
    (hm : 0 < n + m) (h63 : n + m ≤ maxLen) (hbytes : (n + m) * bytes ≤ 140737488355328)
    (h : ∀ g cap w', RowN w' e size (some g) (.slice (some ⟨g, 0, none⟩) (n + m) cap) (n + m) (xs ++ news) → w.grownBy w' row → (row = some g ∨ g = w.heap.size) → g < w'.heap.size →
      K (a.put o.dst (.slice (some ⟨g, 0, none⟩) (n + m) cap)) w') : if Region.wanted o (yielded ops a.tmps) = true then Oper.wp P o a w K Q else E := by
  have hw : Region.wanted o (yielded ops a.tmps) = true := by simp [Region.wanted, hgd]
  rw [if_pos hw]
  obtain ⟨hown, hrow⟩ := hrow
  obtain ⟨v', w', hr, h2, h3, h4, h5⟩ := run_append_own_at (P := P) w 0 t o.type e i z size bytes ht hi hz hsize hby hzs hsz v n xs hown ad m c news hl hnews h1 h63 hbytes (Nat.zero_le _)
  unfold Oper.wp execOp
  simp only [ho, resolve, invoke, builtin, Sem.run_bind, Sem.run_pure, Result.andThen_ok, List.map_toArray, List.map_cons, List.map_nil, hs, hx, hr]
  rcases h2.2 with ⟨_, h0⟩ | ⟨g, cap, cur, rfl, _, hh, _⟩
  · omega
  · refine (h g cap w' ⟨h2, rfl⟩ (hrow ▸ h3) ?_ (Array.getElem?_eq_some_iff.1 hh).1)
    simp only [Value.ownBlock] at h5
    rcases h5 with h5 | h5
    · left; rw [← hrow]; exact h5.symm
    · right; injection h5

end Go.Proofs.Ytndldoamadmphaa
