/- The model's steps as plain functions; what stays true of a model. No program in sight. Do: what it does, by the plain step. -/
import Derived.Test.YtndldoamadmphaaMd17
import Derived.Test.YtndldoamadmphaaMd5b
namespace Go.Proofs.Ytndldoamadmphaa
open Go.RowKit

/-- What may stand in each instruction's parts. -/
def partsL : List (Nat × Nat × Nat) := [(0, 0, 0), (2, 1, 0), (2, 2, 1), (2, 1, 2), (2, 2, 0), (2, 0, 0), (2, 3, 0), (3, 2, 0), (4, 2, 0), (0, 0, 0), (0, 1, 1), (6, 0, 0), (6, 0, 0), (2, 2, 0), (5, 0, 0), (2, 2, 5), (1, 1, 0), (5, 0, 0)]
def most (gl nf size : Int) (k : Nat) : Int :=
  match k with
  | 0 => 1
  | 1 => 256
  | 2 => 16
  | 3 => gl
  | 4 => nf
  | 5 => size
  | _ => 32
def partOK (gl nf size : Int) (k : Nat) (v : Int) : Prop := 0 ≤ v ∧ v < most gl nf size k
instance (gl nf size : Int) (k : Nat) (v : Int) : Decidable (partOK gl nf size k v) := by unfold partOK; exact inferInstance
def kindsOf (i : In) : Nat × Nat × Nat := partsL.getD i.op.toNat (0, 0, 0)
def instOK (gl nf size : Int) (i : In) : Prop := (0 ≤ i.op ∧ i.op < 18) ∧ partOK gl nf size (kindsOf i).1 i.a ∧ partOK gl nf size (kindsOf i).2.1 i.b ∧ partOK gl nf size (kindsOf i).2.2 i.c
instance (gl nf size : Int) (i : In) : Decidable (instOK gl nf size i) := by unfold instOK; exact inferInstance

def sleepM (M : Mo) (g : Nat) (d : Int) : Mo := { M with tm := pushL M.tm ⟨M.clock + d, g, (M.made : Int) + 1⟩, made := M.made + 1 }
def wakeM (M : Mo) (a : Int) : Mo := { M with wt := wakeL M.wt a, st := mvL M.st (wakeV M.wt a).1 1 }
def allocM (M : Mo) (g a b : Nat) : Mo := setG { M with sl := M.sl ++ [zeros (b + 1)] } g (stk (gorAt M g) a M.sl.length)
instance (M : Mo) (id i : Int) : Decidable (slotOK M id i) := by unfold slotOK; exact inferInstance
def slotV (M : Mo) (id i : Int) : Int := (M.sl.getD id.toNat []).getD i.toNat 0
/-- What an instruction does: the state behind, a value, the model; none: it can't be done. -/
def doI (M : Mo) (g : Nat) (i : In) : Option (Int × Int × Mo) :=
  match i.op.toNat with
  | 0 => some (5, 0, M)
  | 1 => some (1, M.sl.length, allocM M g i.a.toNat i.b.toNat)
  | 2 => if slotOK M ((gorAt M g).stack i.b.toNat) i.c then some (1, slotV M ((gorAt M g).stack i.b.toNat) i.c, setG M g (stk (gorAt M g) i.a.toNat (slotV M ((gorAt M g).stack i.b.toNat) i.c))) else none
  | 3 => if slotOK M ((gorAt M g).stack i.a.toNat) i.b then some (1, 0, setSl M ((gorAt M g).stack i.a.toNat).toNat i.b.toNat ((gorAt M g).stack i.c.toNat)) else none
  | 4 => some (1, 0, setG M g (stk (gorAt M g) i.a.toNat ((gorAt M g).stack i.b.toNat)))
  | 5 => some (1, 0, setG M g (stk (gorAt M g) i.a.toNat 0))
  | 6 => some (1, 0, setG M g (stk (gorAt M g) i.a.toNat (M.gl.getD i.b.toNat 0)))
  | 7 => some (1, 0, setGl M i.a.toNat ((gorAt M g).stack i.b.toNat))
  | 8 => if M.st.length < 1024 then some (1, M.st.length, spawnM M i.a ((gorAt M g).stack i.b.toNat)) else none
  | 9 => some (1, 0, M)
  | 10 => some (3, 0, sleepM M g (256 * i.b + i.c + 1))
  | 11 => some (3, 0, { M with wt := waitL M.wt i.a g })
  | 12 => if (wakeV M.wt i.a).2 = true then some (1, (wakeV M.wt i.a).1, wakeM M i.a) else some (1, -1, M)
  | 13 => some (1, if (gorAt M g).stack i.a.toNat = (gorAt M g).stack i.b.toNat then 1 else 0, M)
  | 14 => some (1, 0, setG M g (pcG (gorAt M g) i.a))
  | 15 => some (1, 0, if (gorAt M g).stack i.a.toNat = (gorAt M g).stack i.b.toNat then setG M g (pcG (gorAt M g) i.c) else M)
  | 16 => some (1, 0, setG M g (cntG (gorAt M g) (256 * i.a + i.b)))
  | 17 => some (1, 0, if 0 < (gorAt M g).count then setG M g (pcG (cntG (gorAt M g) ((gorAt M g).count - 1)) i.a) else M)
  | _ => none

/-- A commit. -/
structure Cm where
  g : Int
  f : Int
  pc : Int
  op : Int
  v : Int
  fault : Bool
deriving DecidableEq
def Cm.val (c : Cm) : Value := .agg (cmV c.g c.f c.pc c.op c.v c.fault)
def cm0 : Cm := ⟨0, 0, 0, 0, 0, false⟩
def moveM (M : Mo) (g : Int) (to : Int) : Mo := { M with st := mvL M.st g to }
def stepY (M : Mo) (g : Nat) : Mo × Cm :=
  match doI (runM M g) g (instOf M g) with
  | some (ret, val, M3) => (moveM M3 g ret, ⟨g, (gorAt M g).f, (gorAt M g).pc, (instOf M g).op, val, false⟩)
  | none => (moveM (runM M g) g 5, ⟨g, (gorAt M g).f, (gorAt M g).pc, (instOf M g).op, 0, true⟩)
/-- Do: the model, the commit, the error. -/
def stepM (M : Mo) (g : Int) : Mo × Cm × Int :=
  if stateM M g = 0 then (M, cm0, 4) else if stateM M g ≠ 1 then (M, cm0, 5) else ((stepY M g.toNat).1, (stepY M g.toNat).2, 0)

/-- What is true of a goroutine. -/
structure GorOK (nf ns n : Nat) (x : Gor) : Prop where
  f : 0 ≤ x.f ∧ x.f < nf
  pc : 0 ≤ x.pc ∧ x.pc < 1000 + n
  count : 0 ≤ x.count ∧ x.count < 65536
  stack : ∀ k, 0 ≤ x.stack k ∧ x.stack k < ns
/-- What is true of a model after n steps. -/
structure Good (M : Mo) (n : Nat) : Prop where
  len : M.gs.length = M.st.length
  gmax : M.gs.length ≤ 1024
  nf : M.funcs.length ≤ 16
  globs : M.gl.length ≤ 32
  code : ∀ (f : Nat) l, M.funcs[f]? = some l → l.length ≤ 64 ∧ ∀ i ∈ l, instOK M.gl.length M.funcs.length l.length i
  gor : ∀ (g : Nat) x, M.gs[g]? = some x → GorOK M.funcs.length M.sl.length n x
  gl : ∀ v ∈ M.gl, 0 ≤ v ∧ v < M.sl.length
  sl : ∀ l ∈ M.sl, l.length ≤ 256 ∧ ∀ v ∈ l, 0 ≤ v ∧ v < M.sl.length
  sl0 : M.sl[0]? = some []
  sll : M.sl.length ≤ n + 1
  made : M.made ≤ n
  tml : M.tm.length ≤ n
  wtl : ∀ i, i < 32 → (M.wt i).length ≤ n
  clock : 0 ≤ M.clock ∧ M.clock ≤ 1000 * n

theorem GorOK.mono {nf ns n ns' n' : Nat} {x : Gor} (h : GorOK nf ns n x) (h1 : ns ≤ ns') (h2 : n ≤ n') : GorOK nf ns' n' x :=
  ⟨h.f, ⟨h.pc.1, by have := h.pc.2; omega⟩, h.count, fun k => ⟨(h.stack k).1, by have := (h.stack k).2; omega⟩⟩
theorem Good.mono {M : Mo} {n n' : Nat} (h : Good M n) (hn : n ≤ n') : Good M n' :=
  ⟨h.len, h.gmax, h.nf, h.globs, h.code, fun g x hx => (h.gor g x hx).mono (Nat.le_refl _) hn, h.gl, h.sl, h.sl0, by have := h.sll; omega, by have := h.made; omega, by have := h.tml; omega, fun i hi => by have := h.wtl i hi; omega, ⟨h.clock.1, by have := h.clock.2; omega⟩⟩
theorem mvL_length (l : List Int) (g to : Int) : (mvL l g to).length = l.length := by
  unfold mvL
  split <;> simp
section
variable {M : Mo} {n g : Nat}
theorem Good.at_ (h : Good M n) (hg : g < M.gs.length) : GorOK M.funcs.length M.sl.length n (gorAt M g) := h.gor g _ (gorAt_get hg)
theorem Good.moveSt (h : Good M n) (st : List Int) (hl : st.length = M.st.length) : Good { M with st := st } n :=
  ⟨h.len.trans hl.symm, h.gmax, h.nf, h.globs, h.code, h.gor, h.gl, h.sl, h.sl0, h.sll, h.made, h.tml, h.wtl, h.clock⟩
theorem Good.move (h : Good M n) (g to : Int) : Good (moveM M g to) n := h.moveSt _ (mvL_length _ _ _)
theorem Good.setGor (h : Good M n) {x : Gor} (hx : GorOK M.funcs.length M.sl.length n x) : Good (setG M g x) n := by
  refine ⟨?_, ?_, h.nf, h.globs, h.code, fun k y hy => ?_, h.gl, h.sl, h.sl0, h.sll, h.made, h.tml, h.wtl, h.clock⟩
  · simpa [setG] using h.len
  · simpa [setG] using h.gmax
  · simp only [setG, List.getElem?_set] at hy
    split at hy
    · split at hy
      · injection hy with hy
        subst hy
        exact hx
      · cases hy
    · exact h.gor k y hy
theorem gorAt_setG (M : Mo) {g : Nat} (hg : g < M.gs.length) (x : Gor) : gorAt (setG M g x) g = x := by simp [gorAt, setG, List.getD, hg]
theorem gorAt_setG_ne (M : Mo) {g k : Nat} (h : k ≠ g) (x : Gor) : gorAt (setG M g x) k = gorAt M k := by
  simp only [gorAt, setG, List.getD]
  rw [List.getElem?_set_ne (by omega)]
theorem GorOK.stk {nf ns n : Nat} {x : Gor} (h : GorOK nf ns n x) (a : Nat) {v : Int} (h0 : 0 ≤ v) (h1 : v < ns) : GorOK nf ns n (stk x a v) := by
  refine ⟨h.f, h.pc, h.count, fun k => ?_⟩
  show 0 ≤ upN x.stack a v k ∧ upN x.stack a v k < ns
  unfold upN
  split
  · exact ⟨h0, h1⟩
  · exact h.stack k
theorem getD_bd {l : List Int} {i : Nat} {ns : Nat} (h : ∀ v ∈ l, 0 ≤ v ∧ v < (ns : Int)) (h0 : 0 < ns) : 0 ≤ l.getD i 0 ∧ l.getD i 0 < (ns : Int) := by
  rw [List.getD]
  cases e : l[i]? with
  | none => simp; omega
  | some v => exact h v (List.mem_of_getElem? e)
theorem Good.pos (h : Good M n) : 0 < M.sl.length := (List.getElem?_eq_some_iff.1 h.sl0).1
theorem Good.slotV (h : Good M n) (id i : Int) : 0 ≤ slotV M id i ∧ slotV M id i < M.sl.length := by
  unfold Ytndldoamadmphaa.slotV
  refine getD_bd (ns := M.sl.length) (fun v hv => ?_) h.pos
  rw [List.getD] at hv
  cases e : M.sl[id.toNat]? with
  | none => rw [e] at hv; simp at hv
  | some l => rw [e] at hv; exact (h.sl l (List.mem_of_getElem? e)).2 v hv
theorem Good.setGlob (h : Good M n) (b : Nat) {v : Int} (h0 : 0 ≤ v) (h1 : v < M.sl.length) : Good (setGl M b v) n := by
  refine ⟨h.len, h.gmax, h.nf, ?_, ?_, h.gor, fun u hu => ?_, h.sl, h.sl0, h.sll, h.made, h.tml, h.wtl, h.clock⟩
  · simpa [setGl] using h.globs
  · simpa [setGl] using h.code
  · rcases List.mem_or_eq_of_mem_set hu with hu | rfl
    · exact h.gl u hu
    · exact ⟨h0, h1⟩
theorem Good.setSlot (h : Good M n) {id : Nat} (hid : id ≠ 0) (b : Nat) {v : Int} (h0 : 0 ≤ v) (h1 : v < M.sl.length) : Good (setSl M id b v) n := by
  refine ⟨h.len, h.gmax, h.nf, h.globs, h.code, ?_, ?_, fun l hl => ?_, ?_, ?_, h.made, h.tml, h.wtl, h.clock⟩
  · simpa [setSl] using h.gor
  · simpa [setSl] using h.gl
  · simp only [setSl] at hl
    have e : (setSl M id b v).sl.length = M.sl.length := by simp [setSl]
    rw [e]
    rcases List.mem_or_eq_of_mem_set hl with hl | rfl
    · exact h.sl l hl
    · have hold : (M.sl.getD id []).length ≤ 256 ∧ ∀ u ∈ M.sl.getD id [], 0 ≤ u ∧ u < (M.sl.length : Int) := by
        rw [List.getD]
        cases e : M.sl[id]? with
        | none => simp
        | some l => exact h.sl l (List.mem_of_getElem? e)
      refine ⟨by simpa using hold.1, fun u hu => ?_⟩
      rcases List.mem_or_eq_of_mem_set hu with hu | rfl
      · exact hold.2 u hu
      · exact ⟨h0, h1⟩
  · simp only [setSl]
    rw [List.getElem?_set_ne hid]
    exact h.sl0
  · simpa [setSl] using h.sll
theorem Good.run (h : Good M n) (hg : g < M.gs.length) : Good (runM M g) (n + 1) := by
  have hx := h.at_ hg
  refine (((h.moveSt (mvL M.st g 2) (mvL_length _ _ _)).mono (Nat.le_succ n)).setGor (x := bumpG (gorAt M g)) ⟨hx.f, ⟨?_, ?_⟩, hx.count, hx.stack⟩)
  · show 0 ≤ (gorAt M g).pc + 1
    have := hx.pc.1; omega
  · show (gorAt M g).pc + 1 < 1000 + ((n + 1 : Nat) : Int)
    have := hx.pc.2; omega
theorem runM_len (M : Mo) (g : Nat) : (runM M g).gs.length = M.gs.length := by simp [runM, setG]
theorem gorAt_runM (hg : g < M.gs.length) : gorAt (runM M g) g = bumpG (gorAt M g) := gorAt_setG { M with st := mvL M.st g 2 } hg _
theorem Good.alloc (h : Good M n) (hg : g < M.gs.length) (a : Nat) {b : Nat} (hb : b < 256) : Good (allocM M g a b) (n + 1) := by
  have h1 : Good { M with sl := M.sl ++ [zeros (b + 1)] } (n + 1) := by
    refine ⟨h.len, h.gmax, h.nf, h.globs, h.code, fun k y hy => (h.gor k y hy).mono (by simp) (Nat.le_succ _), fun v hv => ?_, fun l hl => ?_, ?_, ?_, ?_, ?_, ?_, ⟨h.clock.1, ?_⟩⟩
    · have := h.gl v hv
      simp only [List.length_append, List.length_singleton]
      omega
    · simp only [List.length_append, List.length_singleton]
      simp only [List.mem_append, List.mem_singleton] at hl
      rcases hl with hl | rfl
      · refine ⟨(h.sl l hl).1, fun v hv => ?_⟩
        have := (h.sl l hl).2 v hv
        omega
      · refine ⟨by simp [zeros]; omega, fun v hv => ?_⟩
        simp only [zeros, List.mem_replicate] at hv
        omega
    · show (M.sl ++ _)[0]? = some []
      rw [List.getElem?_append_left h.pos]
      exact h.sl0
    · have := h.sll
      simp only [List.length_append, List.length_singleton]
      omega
    · have := h.made; show M.made ≤ n + 1; omega
    · have := h.tml; show M.tm.length ≤ n + 1; omega
    · intro i hi
      have := h.wtl i hi
      show (M.wt i).length ≤ n + 1
      omega
    · have := h.clock.2
      show M.clock ≤ 1000 * ((n + 1 : Nat) : Int)
      omega
  refine h1.setGor ?_
  have hx := h1.at_ (g := g) hg
  refine hx.stk a (by omega) ?_
  simp
  omega
theorem Good.spawn (h : Good M n) (hl : M.st.length < 1024) {f v : Int} (hf : 0 ≤ f ∧ f < M.funcs.length) (hv : 0 ≤ v ∧ v < M.sl.length) : Good (spawnM M f v) n := by
  refine ⟨?_, ?_, h.nf, h.globs, h.code, fun k y hy => ?_, h.gl, h.sl, h.sl0, h.sll, h.made, h.tml, h.wtl, h.clock⟩
  · simp [spawnM, h.len]
  · have := h.len
    simp only [spawnM, List.length_append, List.length_singleton]
    omega
  · simp only [spawnM] at hy
    rw [List.getElem?_append] at hy
    split at hy
    · exact h.gor k y hy
    · have hy2 : y = gor0 f v := by
        have := List.mem_of_getElem? hy
        simpa using this
      subst hy2
      refine ⟨hf, ⟨by simp [gor0], ?_⟩, by simp [gor0], fun k => ?_⟩
      · show (0 : Int) < 1000 + n
        omega
      · show 0 ≤ upN (fun _ => 0) 0 v k ∧ upN (fun _ => 0) 0 v k < (M.sl.length : Int)
        have := h.pos
        unfold upN
        split
        · exact hv
        · exact ⟨Int.le_refl 0, show (0 : Int) < M.sl.length by omega⟩
theorem Good.sleep (h : Good M n) (d : Int) : Good (sleepM M g d) (n + 1) := by
  have h' := h.mono (Nat.le_succ n)
  refine ⟨h'.len, h'.gmax, h'.nf, h'.globs, h'.code, h'.gor, h'.gl, h'.sl, h'.sl0, h'.sll, ?_, ?_, h'.wtl, h'.clock⟩
  · have := h.made; show M.made + 1 ≤ n + 1; omega
  · have := h.tml
    show (pushL M.tm _).length ≤ n + 1
    rw [pushL_len]; omega
theorem waitL_len (L : Nat → List Int) (a g : Int) (i : Nat) : (waitL L a g i).length ≤ (L i).length + 1 := by
  unfold waitL
  split
  · unfold upN
    split
    · rename_i e
      subst e
      simp
    · omega
  · omega
theorem wakeL_len (L : Nat → List Int) (a : Int) (i : Nat) : (wakeL L a i).length ≤ (L i).length := by
  unfold wakeL
  split
  · cases e : L a.toNat with
    | nil => exact Nat.le_refl _
    | cons x xs =>
      show (upN L a.toNat xs i).length ≤ _
      unfold upN
      split
      · rename_i e2
        subst e2
        rw [e]; simp
      · exact Nat.le_refl _
  · omega
theorem Good.block (h : Good M n) (a g : Int) : Good { M with wt := waitL M.wt a g } (n + 1) := by
  have h' := h.mono (Nat.le_succ n)
  refine ⟨h'.len, h'.gmax, h'.nf, h'.globs, h'.code, h'.gor, h'.gl, h'.sl, h'.sl0, h'.sll, h'.made, h'.tml, fun i hi => ?_, h'.clock⟩
  have := h.wtl i hi
  have := waitL_len M.wt a g i
  show (waitL M.wt a g i).length ≤ n + 1
  omega
theorem Good.wake (h : Good M n) (a : Int) : Good (wakeM M a) n := by
  refine ⟨h.len.trans (mvL_length _ _ _).symm, h.gmax, h.nf, h.globs, h.code, h.gor, h.gl, h.sl, h.sl0, h.sll, h.made, h.tml, fun i hi => ?_, h.clock⟩
  have := h.wtl i hi
  have := wakeL_len M.wt a i
  show (wakeL M.wt a i).length ≤ n
  omega
/-- The parts of an instruction that may be. -/
theorem instOK.op {gl nf size : Int} {i : In} (h : instOK gl nf size i) : ∃ k : Nat, k < 18 ∧ i.op = k ∧ i.op.toNat = k := ⟨i.op.toNat, by have := h.1; omega, by have := h.1; omega, rfl⟩
theorem Good.doI (h : Good M n) (hg : g < M.gs.length) {i : In} {size : Nat} (hs : size ≤ 64) (hi : instOK M.gl.length M.funcs.length size i) {ret val : Int} {M3 : Mo} (hd : doI M g i = some (ret, val, M3)) : Good M3 (n + 1) := by
  obtain ⟨k, hk, e1, e2⟩ := hi.op
  obtain ⟨_, ha, hb, hc⟩ := hi
  have hx := h.at_ hg
  have h1 := h.mono (Nat.le_succ n)
  have hx1 := h1.at_ hg
  have hget : ∀ j : Nat, 0 ≤ M.gl.getD j 0 ∧ M.gl.getD j 0 < (M.sl.length : Int) := fun j => getD_bd h.gl h.pos
  unfold kindsOf at ha hb hc
  rw [e2] at ha hb hc
  unfold Ytndldoamadmphaa.doI at hd
  rw [e2] at hd
  rcases k with _ | _ | _ | _ | _ | _ | _ | _ | _ | _ | _ | _ | _ | _ | _ | _ | _ | _ | k
  all_goals simp only at hd
  all_goals simp only [partsL, List.getD_cons_zero, List.getD_cons_succ, partOK, most] at ha hb hc
  case _ => injection hd with hd; injection hd with _ hd; injection hd with _ hd; subst hd; exact h1
  case _ => injection hd with hd; injection hd with _ hd; injection hd with _ hd; subst hd; exact h.alloc hg _ (by omega)
  case _ =>
    split at hd
    · injection hd with hd; injection hd with _ hd; injection hd with _ hd; subst hd
      exact h1.setGor (hx1.stk _ (h.slotV _ _).1 (h.slotV _ _).2)
    · cases hd
  case _ =>
    split at hd
    · rename_i hsl
      injection hd with hd; injection hd with _ hd; injection hd with _ hd; subst hd
      refine h1.setSlot ?_ _ (hx.stack _).1 (hx.stack _).2
      have := hsl.1
      have := (hx.stack i.a.toNat).1
      omega
    · cases hd
  case _ => injection hd with hd; injection hd with _ hd; injection hd with _ hd; subst hd; exact h1.setGor (hx1.stk _ (hx.stack _).1 (hx.stack _).2)
  case _ => injection hd with hd; injection hd with _ hd; injection hd with _ hd; subst hd; exact h1.setGor (hx1.stk _ (by omega) (by have := h.pos; omega))
  case _ => injection hd with hd; injection hd with _ hd; injection hd with _ hd; subst hd; exact h1.setGor (hx1.stk _ (hget _).1 (hget _).2)
  case _ => injection hd with hd; injection hd with _ hd; injection hd with _ hd; subst hd; exact h1.setGlob _ (hx.stack _).1 (hx.stack _).2
  case _ =>
    split at hd
    · rename_i hl
      injection hd with hd; injection hd with _ hd; injection hd with _ hd; subst hd; exact h1.spawn hl ha (hx.stack _)
    · cases hd
  case _ => injection hd with hd; injection hd with _ hd; injection hd with _ hd; subst hd; exact h1
  case _ => injection hd with hd; injection hd with _ hd; injection hd with _ hd; subst hd; exact h.sleep _
  case _ => injection hd with hd; injection hd with _ hd; injection hd with _ hd; subst hd; exact h.block _ _
  case _ =>
    split at hd
    · injection hd with hd; injection hd with _ hd; injection hd with _ hd; subst hd; exact h1.wake _
    · injection hd with hd; injection hd with _ hd; injection hd with _ hd; subst hd; exact h1
  case _ => injection hd with hd; injection hd with _ hd; injection hd with _ hd; subst hd; exact h1
  case _ => injection hd with hd; injection hd with _ hd; injection hd with _ hd; subst hd; exact h1.setGor ⟨hx1.f, ⟨ha.1, by show i.a < _; omega⟩, hx1.count, hx1.stack⟩
  case _ =>
    injection hd with hd; injection hd with _ hd; injection hd with _ hd; subst hd
    split
    · exact h1.setGor ⟨hx1.f, ⟨hc.1, by show i.c < _; omega⟩, hx1.count, hx1.stack⟩
    · exact h1
  case _ => injection hd with hd; injection hd with _ hd; injection hd with _ hd; subst hd; exact h1.setGor ⟨hx1.f, hx1.pc, ⟨by show 0 ≤ 256 * i.a + i.b; omega, by show 256 * i.a + i.b < 65536; omega⟩, hx1.stack⟩
  case _ =>
    injection hd with hd; injection hd with _ hd; injection hd with _ hd; subst hd
    split
    · refine h1.setGor ⟨hx1.f, ⟨ha.1, by show i.a < _; omega⟩, ⟨?_, ?_⟩, hx1.stack⟩
      · show 0 ≤ (gorAt M g).count - 1; omega
      · show (gorAt M g).count - 1 < 65536; have := hx.count.2; omega
    · exact h1
  case _ => omega
/-- The next instruction may be. -/
theorem Good.inst (h : Good M n) (hg : g < M.gs.length) : ∃ size : Nat, size ≤ 64 ∧ instOK M.gl.length M.funcs.length size (instOf M g) := by
  have hx := h.at_ hg
  have hf : (gorAt M g).f.toNat < M.funcs.length := by have := hx.f; omega
  obtain ⟨l, hl⟩ : ∃ l, M.funcs[(gorAt M g).f.toNat]? = some l := ⟨_, List.getElem?_eq_getElem hf⟩
  obtain ⟨h1, h2⟩ := h.code _ l hl
  have hcode : codeOf M g = l := by simp [codeOf, List.getD, hl]
  refine ⟨l.length, h1, ?_⟩
  unfold instOf
  rw [hcode, List.getD]
  cases e : l[(gorAt M g).pc.toNat]? with
  | none => exact ⟨⟨by decide, by decide⟩, ⟨by decide, show (0 : Int) < 1 by decide⟩, ⟨by decide, show (0 : Int) < 1 by decide⟩, ⟨by decide, show (0 : Int) < 1 by decide⟩⟩
  | some i => exact h2 i (List.mem_of_getElem? e)
theorem Good.instRun (h : Good M n) (hg : g < M.gs.length) : ∃ size : Nat, size ≤ 64 ∧ instOK (runM M g).gl.length (runM M g).funcs.length size (instOf M g) := h.inst hg
theorem Good.stepY (h : Good M n) (hg : g < M.gs.length) : Good (stepY M g).1 (n + 2) := by
  obtain ⟨size, hs, hi⟩ := h.instRun hg
  have h1 := h.run hg
  unfold Ytndldoamadmphaa.stepY
  split
  · rename_i ret val M3 hd
    exact (h1.doI (by rw [runM_len]; exact hg) hs hi hd).move _ _
  · exact (h1.mono (Nat.le_succ _)).move _ _
theorem Good.step (h : Good M n) (g : Int) : Good (stepM M g).1 (n + 2) := by
  unfold stepM
  split
  · exact h.mono (by omega)
  · rename_i h0
    split
    · exact h.mono (by omega)
    · obtain ⟨k, rfl, hk⟩ := stateM_ne h0
      exact h.stepY (by rw [h.len]; exact hk)
theorem Good.ok (h : Good M n) (hn : n < 800000) : MoOK M n := by
  refine ⟨h.len, fun g hg => (h.at_ hg).f, fun g hg => (h.at_ hg).pc, hn, h.made, h.tml, h.wtl, h.sll⟩
end
end Go.Proofs.Ytndldoamadmphaa
namespace Go.Proofs.Ytndldoamadmphaa
open Go.RowKit
theorem cm_set (a1 a2 a3 a4 v : Int) : (cmV a1 a2 a3 a4 0 false).setIfInBounds 4 (.int .i64 v) = cmV a1 a2 a3 a4 v false := by simp [cmV]
section
variable {M M3 : Mo} {n g k f : Nat} {i : In} {ret val : Int}
set_option maxHeartbeats 1000000 in
theorem op_yes (h : Good M n) (hn : n < 800000) (hg : g < M.gs.length) {size : Nat} (hi : instOK M.gl.length M.funcs.length size i) (hk : i.op = k) (hf : opFs[k]? = some f) (hd : doI M g i = some (ret, val, M3)) : OpYes f g i M ret val M3 := by
  intro w c m Y vb a1 a2 a3 a4 hm hv hvc
  have hk18 : k < 18 := (List.getElem?_eq_some_iff.1 hf).1
  obtain ⟨_, ha, hb, hc⟩ := hi
  have hx := h.at_ hg
  have e2 : i.op.toNat = k := by omega
  have hcv : ∃ u : Int, (cmV a1 a2 a3 a4 0 false)[4]? = some (.int .i64 u) := ⟨0, rfl⟩
  have hwl : ∀ i, i < 32 → (M.wt i).length < 900000 := fun i hi => by have := h.wtl i hi; omega
  have hsl := h.sll
  have htl := h.tml
  have hmd := h.made
  have hck := h.clock
  unfold kindsOf at ha hb hc
  rw [e2] at ha hb hc
  unfold doI at hd
  rw [e2] at hd
  rcases k with _ | _ | _ | _ | _ | _ | _ | _ | _ | _ | _ | _ | _ | _ | _ | _ | _ | _ | k
  all_goals simp only at hd
  all_goals simp only [partsL, List.getD_cons_zero, List.getD_cons_succ, partOK, most] at ha hb hc
  all_goals simp only [opFs, List.getElem?_cons_zero, List.getElem?_cons_succ, Option.some.injEq] at hf
  case _ => injection hd with hd; injection hd with hd1 hd; injection hd with hd2 hd; subst hd; subst hd1; subst hd2; subst hf; exact oexit_c hm hv i
  case _ =>
    injection hd with hd; injection hd with hd1 hd; injection hd with hd2 hd; subst hd; subst hd1; subst hd2; subst hf
    rw [← cm_set]
    exact oalloc_c hm hv hvc hcv hg i (a := i.a.toNat) (b := i.b.toNat) (by omega) (by omega) (by omega) (by omega) (by omega)
  case _ =>
    split at hd
    · rename_i hs
      injection hd with hd; injection hd with hd1 hd; injection hd with hd2 hd; subst hd; subst hd1; subst hd2; subst hf
      have hst := hx.stack i.b.toNat
      rw [← cm_set]
      have hs' := hs
      rw [show i.c = (i.c.toNat : Int) by omega, show (gorAt M g).stack i.b.toNat = (((gorAt M g).stack i.b.toNat).toNat : Int) by omega] at hs'
      exact oload_yes hm hv hvc hcv hg i (a := i.a.toNat) (b := i.b.toNat) (d := i.c.toNat) (id := ((gorAt M g).stack i.b.toNat).toNat) (by omega) (by omega) (by omega) (by omega) (by omega) (by omega) (by omega) hs'
    · cases hd
  case _ =>
    split at hd
    · rename_i hs
      injection hd with hd; injection hd with hd1 hd; injection hd with hd2 hd; subst hd; subst hd1; subst hd2; subst hf
      have hst := hx.stack i.a.toNat
      have hs' := hs
      rw [show i.b = (i.b.toNat : Int) by omega, show (gorAt M g).stack i.a.toNat = (((gorAt M g).stack i.a.toNat).toNat : Int) by omega] at hs'
      exact ostore_yes hm hv hvc hg i (a := i.a.toNat) (b := i.b.toNat) (d := i.c.toNat) (id := ((gorAt M g).stack i.a.toNat).toNat) (by omega) (by omega) (by omega) (by omega) (by omega) (by omega) (by omega) hs'
    · cases hd
  case _ => injection hd with hd; injection hd with hd1 hd; injection hd with hd2 hd; subst hd; subst hd1; subst hd2; subst hf; exact omove_c hm hv hvc hg i (a := i.a.toNat) (b := i.b.toNat) (by omega) (by omega) (by omega) (by omega)
  case _ => injection hd with hd; injection hd with hd1 hd; injection hd with hd2 hd; subst hd; subst hd1; subst hd2; subst hf; exact ozero_c hm hv hvc hg i (a := i.a.toNat) (by omega) (by omega)
  case _ => injection hd with hd; injection hd with hd1 hd; injection hd with hd2 hd; subst hd; subst hd1; subst hd2; subst hf; exact oget_c hm hv hvc hg i (a := i.a.toNat) (b := i.b.toNat) (by omega) (by omega) (by omega) (by omega)
  case _ => injection hd with hd; injection hd with hd1 hd; injection hd with hd2 hd; subst hd; subst hd1; subst hd2; subst hf; exact oput_c hm hv hvc hg i (a := i.a.toNat) (b := i.b.toNat) (by omega) (by omega) (by omega) (by omega)
  case _ =>
    split at hd
    · rename_i hl
      injection hd with hd; injection hd with hd1 hd; injection hd with hd2 hd; subst hd; subst hd1; subst hd2; subst hf
      rw [← cm_set]
      exact obegin_c hm hv hvc hcv hg i (b := i.b.toNat) (by omega) (by omega) hl h.len
    · cases hd
  case _ => injection hd with hd; injection hd with hd1 hd; injection hd with hd2 hd; subst hd; subst hd1; subst hd2; subst hf; exact oyield_c hm hv i
  case _ => injection hd with hd; injection hd with hd1 hd; injection hd with hd2 hd; subst hd; subst hd1; subst hd2; subst hf; exact osleep_c hm hv hvc i hb hc (by omega) (by omega) ⟨hck.1, by omega⟩
  case _ => injection hd with hd; injection hd with hd1 hd; injection hd with hd2 hd; subst hd; subst hd1; subst hd2; subst hf; exact oblock_c hm hv hvc i hwl
  case _ =>
    split at hd
    · rename_i hw
      injection hd with hd; injection hd with hd1 hd; injection hd with hd2 hd; subst hd; subst hd1; subst hd2; subst hf
      rw [← cm_set]
      exact owake_yes hm hv hvc hcv i hwl (x := (wakeV M.wt i.a).1) (by rw [← hw])
    · rename_i hw
      injection hd with hd; injection hd with hd1 hd; injection hd with hd2 hd; subst hd; subst hd1; subst hd2; subst hf
      rw [← cm_set]
      have hw2 : wakeV M.wt i.a = (0, false) ∧ wakeL M.wt i.a = M.wt := by
        unfold wakeV at hw ⊢
        unfold wakeL
        split
        · rename_i hp
          rw [if_pos hp] at hw
          cases e : M.wt i.a.toNat with
          | nil => exact ⟨rfl, rfl⟩
          | cons x xs => rw [e] at hw; exact absurd rfl hw
        · exact ⟨rfl, rfl⟩
      have := owake_no hm hv hvc hcv i hwl hw2.1 (g := g)
      rw [hw2.2] at this
      exact this
  case _ =>
    injection hd with hd; injection hd with hd1 hd; injection hd with hd2 hd; subst hd; subst hd1; subst hd2; subst hf
    have := oeq_c hm hv hvc hcv hg i (a := i.a.toNat) (b := i.b.toNat) (by omega) (by omega) (by omega) (by omega)
    rw [cm_set] at this
    refine this.mono fun e w' hp => ?_
    split at hp <;> rename_i he
    · rw [if_pos he]; exact hp
    · rw [if_neg he]; exact hp
  case _ => injection hd with hd; injection hd with hd1 hd; injection hd with hd2 hd; subst hd; subst hd1; subst hd2; subst hf; exact ojump_c hm hv hvc hg i
  case _ => injection hd with hd; injection hd with hd1 hd; injection hd with hd2 hd; subst hd; subst hd1; subst hd2; subst hf; exact ojeq_c hm hv hvc hg i (a := i.a.toNat) (b := i.b.toNat) (by omega) (by omega) (by omega) (by omega)
  case _ => injection hd with hd; injection hd with hd1 hd; injection hd with hd2 hd; subst hd; subst hd1; subst hd2; subst hf; exact oset_c hm hv hvc hg i ha hb
  case _ =>
    injection hd with hd; injection hd with hd1 hd; injection hd with hd2 hd; subst hd; subst hd1; subst hd2; subst hf
    have hct := hx.count
    by_cases hp : 0 < (gorAt M g).count
    · rw [if_pos hp]
      exact odec_yes hm hv hvc hg i hp (by omega)
    · rw [if_neg hp]
      exact odec_no hm hv hg i hp
  case _ => omega
theorem op_no (h : Good M n) (hg : g < M.gs.length) {size : Nat} (hi : instOK M.gl.length M.funcs.length size i) (hk : i.op = k) (hf : opFs[k]? = some f) (hd : doI M g i = none) : OpNo f g i M := by
  intro w c m Y vb a1 a2 a3 a4 hm hv hvc
  have hk18 : k < 18 := (List.getElem?_eq_some_iff.1 hf).1
  obtain ⟨_, ha, hb, hc⟩ := hi
  have hx := h.at_ hg
  have e2 : i.op.toNat = k := by omega
  have hcv : ∃ u : Int, (cmV a1 a2 a3 a4 0 false)[4]? = some (.int .i64 u) := ⟨0, rfl⟩
  unfold kindsOf at ha hb hc
  rw [e2] at ha hb hc
  unfold doI at hd
  rw [e2] at hd
  rcases k with _ | _ | _ | _ | _ | _ | _ | _ | _ | _ | _ | _ | _ | _ | _ | _ | _ | _ | k
  all_goals simp only at hd
  all_goals simp only [partsL, List.getD_cons_zero, List.getD_cons_succ, partOK, most] at ha hb hc
  all_goals simp only [opFs, List.getElem?_cons_zero, List.getElem?_cons_succ, Option.some.injEq] at hf
  any_goals (cases hd; done)
  case _ =>
    split at hd
    · cases hd
    · rename_i hs
      subst hf
      have hst := hx.stack i.b.toNat
      have hs' := hs
      rw [show i.c = (i.c.toNat : Int) by omega, show (gorAt M g).stack i.b.toNat = (((gorAt M g).stack i.b.toNat).toNat : Int) by omega] at hs'
      exact (oload_no hm hv hg i (b := i.b.toNat) (d := i.c.toNat) (id := ((gorAt M g).stack i.b.toNat).toNat) (by omega) (by omega) (by omega) (by omega) (by omega) hs').mono fun e w' hp => ⟨hp.1, 0, hp.2⟩
  case _ =>
    split at hd
    · cases hd
    · rename_i hs
      subst hf
      have hst := hx.stack i.a.toNat
      have hs' := hs
      rw [show i.b = (i.b.toNat : Int) by omega, show (gorAt M g).stack i.a.toNat = (((gorAt M g).stack i.a.toNat).toNat : Int) by omega] at hs'
      exact (ostore_no hm hv hg i (a := i.a.toNat) (b := i.b.toNat) (d := i.c.toNat) (id := ((gorAt M g).stack i.a.toNat).toNat) (by omega) (by omega) (by omega) (by omega) (by omega) (by omega) (by omega) hs').mono fun e w' hp => ⟨hp.1, 0, hp.2⟩
  case _ =>
    split at hd
    · cases hd
    · rename_i hl
      subst hf
      have := obegin_full hm hv hvc hcv hg i (b := i.b.toNat) (by omega) (by omega) (by omega)
      rw [cm_set] at this
      exact this.mono fun e w' hp => ⟨hp.1, _, hp.2⟩
  case _ =>
    split at hd <;> cases hd
  case _ => omega
end

theorem doI_len {M M3 : Mo} {g : Nat} {i : In} {ret val : Int} (hd : doI M g i = some (ret, val, M3)) : M.gs.length ≤ M3.gs.length := by
  unfold doI at hd
  split at hd
  all_goals first | (cases hd; done) | skip
  all_goals (try split at hd)
  all_goals first | (cases hd; done) | skip
  all_goals (injection hd with hd; injection hd with _ hd; injection hd with _ hd; subst hd)
  all_goals first | exact Nat.le_refl _ | (simp [setG]; done) | (simp [allocM, setG]; done) | (simp [spawnM]; done) | skip
  all_goals (split <;> simp [setG])
/-- Do. -/
theorem do_c {w : World} {c : Col} {m : Nat} {Y : Lay} {M : Mo} {n : Nat} (h : ModelAt w c m Y M) (ok : Good M n) (hn : n < 700000) (g : Int) :
    Calls Try.prog 16 #[.pointer (some ⟨m, 0, none⟩), .int .i64 g] w fun e w' => e = .returned (.tuple #[(stepM M g).2.1.val, .int .i64 (stepM M g).2.2]) ∧ MPost w c m Y M w' (stepM M g).1 := by
  unfold stepM
  by_cases h0 : stateM M g = 0
  · rw [if_pos h0]
    exact (mdo_idle h g h0).mono fun e w' ⟨he, hu⟩ => ⟨he, MPost.of_frame h hu⟩
  · rw [if_neg h0]
    by_cases h1 : stateM M g = 1
    · rw [if_neg (by simpa using h1)]
      obtain ⟨k, rfl, hk⟩ := stateM_ne h0
      rw [← ok.len] at hk
      have hal : aliveM M k := ⟨h0, by rw [h1]; decide⟩
      rw [Int.toNat_natCast]
      obtain ⟨size, hs, hi⟩ := ok.instRun hk
      obtain ⟨j, hj, e1, _⟩ := hi.op
      have hf : opFs[j]? = some (opFs.getD j 0) := by
        have : j < opFs.length := hj
        simp [List.getD, this]
      have hr := ok.run hk
      have hkr : k < (runM M k).gs.length := by rw [runM_len]; exact hk
      unfold stepY
      cases hd : doI (runM M k) k (instOf M k) with
      | none => exact mdo_c h (ok.ok (by omega)) hk h1 hal (do1_of_no e1 hf (op_no hr hkr hi e1 hf hd)) (by rw [runM_len]; exact Nat.le_refl _)
      | some p =>
        obtain ⟨ret, val, M3⟩ := p
        refine mdo_c h (ok.ok (by omega)) hk h1 hal (do1_of_yes e1 hf (op_yes hr (by omega) hkr hi e1 hf hd)) ?_
        have := doI_len hd
        rw [runM_len] at this
        exact this
    · rw [if_pos (by simpa using h1)]
      exact (mdo_state h g h0 h1).mono fun e w' ⟨he, hu⟩ => ⟨he, MPost.of_frame h hu⟩
end Go.Proofs.Ytndldoamadmphaa
