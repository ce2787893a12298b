/- ModelGlobals: the model's steps. -/
import Derived.Test.YtndldoamadmphaaLawC
namespace Go.Proofs.Ytndldoamadmphaa.modelGlobals
def alI : In := ⟨1, 1, 0, 0⟩
def puI (g : Nat) : In := ⟨7, g, 1, 0⟩
def exI : In := ⟨0, 0, 0, 0⟩
def pairs (f : Nat → Nat) (j : Nat) : List In := (List.range j).flatMap fun i => [alI, puI (f i)]
def code (f : Nat → Nat) (j : Nat) : List In := pairs f j ++ [exI]
def px (f : Nat → Nat) (j : Nat) : List (List In) := [code f j]
theorem pairs_succ (f : Nat → Nat) (j : Nat) : pairs f (j + 1) = pairs f j ++ [alI, puI (f j)] := by
  unfold pairs
  rw [List.range_succ, List.flatMap_append]
  rfl
theorem pairs_len (f : Nat → Nat) (j : Nat) : (pairs f j).length = 2 * j := by
  induction j with
  | zero => rfl
  | succ j ih => rw [pairs_succ, List.length_append, ih]; rfl
theorem pairs_at (f : Nat → Nat) {j t : Nat} (h : t < j) : (pairs f j)[2 * t]? = some alI ∧ (pairs f j)[2 * t + 1]? = some (puI (f t)) := by
  induction j with
  | zero => omega
  | succ j ih =>
    rw [pairs_succ]
    by_cases e : t = j
    · subst e
      rw [List.getElem?_append_right (by rw [pairs_len]; omega), List.getElem?_append_right (by rw [pairs_len]; omega), pairs_len]
      rw [show 2 * t - 2 * t = 0 by omega, show 2 * t + 1 - 2 * t = 1 by omega]
      exact ⟨rfl, rfl⟩
    · obtain ⟨h1, h2⟩ := ih (by omega)
      rw [List.getElem?_append_left (by rw [pairs_len]; omega), List.getElem?_append_left (by rw [pairs_len]; omega)]
      exact ⟨h1, h2⟩
theorem code_at (f : Nat → Nat) {j t : Nat} (h : t < j) : (code f j).getD (2 * t) In0 = alI ∧ (code f j).getD (2 * t + 1) In0 = puI (f t) := by
  obtain ⟨h1, h2⟩ := pairs_at f h
  unfold code
  simp only [List.getD]
  rw [List.getElem?_append_left (by rw [pairs_len]; omega), List.getElem?_append_left (by rw [pairs_len]; omega), h1, h2]
  exact ⟨rfl, rfl⟩
theorem code_end (f : Nat → Nat) (j : Nat) : (code f j).getD (2 * j) In0 = exI := by
  unfold code
  simp only [List.getD]
  rw [List.getElem?_append_right (by rw [pairs_len]; omega), pairs_len, Nat.sub_self]
  rfl
def sk (v : Int) : Nat → Int := upN (fun _ => 0) 1 v
theorem sk_set (v u : Int) : upN (sk v) 1 u = sk u := by
  funext i
  unfold sk upN
  by_cases e : i = 1 <;> simp [e]
theorem sk_zero : upN (fun _ => (0 : Int)) 0 0 = sk 0 := by
  funext i
  unfold sk upN
  split <;> split <;> rfl
/-- The model at a place: pc, what its first place of the stack has, the globals, so many objects. -/
def S (k : Nat) (f : Nat → Nat) (j pc : Nat) (v : Int) (gl : List Int) (n : Nat) (st : Int) : Mo := ⟨k, px f j, [st], [⟨0, pc, 0, sk v⟩], gl, [] :: List.replicate n [0], [], 0, fun _ => [], 0⟩
theorem start (k : Nat) (f : Nat → Nat) (j : Nat) : newM k (px f j) = S k f j 0 0 (zeros k) 0 1 := by
  have : gor0 0 0 = ⟨0, 0, 0, sk 0⟩ := by
    unfold gor0
    rw [sk_zero]
  unfold newM spawnM mo0 S
  rw [this, Int.toNat_natCast]
  rfl
theorem S_inst (k : Nat) (f : Nat → Nat) (j pc : Nat) (v : Int) (gl : List Int) (n : Nat) : instOf (S k f j pc v gl n 1) 0 = (code f j).getD pc In0 := by
  show (code f j).getD ((pc : Int)).toNat In0 = _
  rw [Int.toNat_natCast]
theorem S_alloc {k : Nat} {f : Nat → Nat} {j t : Nat} (h : t < j) (v : Int) (gl : List Int) (n : Nat) :
    stepM (S k f j (2 * t) v gl n 1) (0 : Nat) = (S k f j (2 * t + 1) ((n : Int) + 1) gl (n + 1) 1, ⟨0, 0, (2 * t : Nat), 1, (n : Int) + 1, false⟩, 0) := by
  have hi : instOf (S k f j (2 * t) v gl n 1) 0 = alI := by rw [S_inst, (code_at f h).1]
  have hlen : (([] : List Int) :: List.replicate n [(0 : Int)]).length = n + 1 := by simp
  have hd : doI (runM (S k f j (2 * t) v gl n 1) 0) 0 alI = some ((1 : Int), (((([] : List Int) :: List.replicate n [(0 : Int)]).length : Nat) : Int), allocM (runM (S k f j (2 * t) v gl n 1) 0) 0 1 0) := rfl
  rw [stepM_yes rfl hi hd, hlen]
  have e : moveM (allocM (runM (S k f j (2 * t) v gl n 1) 0) 0 1 0) (0 : Nat) 1 = S k f j (2 * t + 1) ((n : Int) + 1) gl (n + 1) 1 := by
    have e1 : ([] : List Int) :: List.replicate n [(0 : Int)] ++ [zeros 1] = [] :: List.replicate (n + 1) [0] := by
      rw [List.replicate_succ']
      rfl
    have e2 : moveM (allocM (runM (S k f j (2 * t) v gl n 1) 0) 0 1 0) (0 : Nat) 1 = ⟨k, px f j, [1], [⟨0, ((2 * t : Nat) : Int) + 1, 0, upN (sk v) 1 ((([] : List Int) :: List.replicate n [(0 : Int)]).length : Nat)⟩], gl, [] :: List.replicate n [0] ++ [zeros 1], [], 0, fun _ => [], 0⟩ := rfl
    rw [e2, e1, sk_set, hlen]
    rfl
  rw [e]
  rfl
theorem S_put {k : Nat} {f : Nat → Nat} {j t : Nat} (h : t < j) (v : Int) (gl : List Int) (n : Nat) :
    stepM (S k f j (2 * t + 1) v gl n 1) (0 : Nat) = (S k f j (2 * t + 2) v (gl.set (f t) v) n 1, ⟨0, 0, (2 * t + 1 : Nat), 7, 0, false⟩, 0) := by
  have hi : instOf (S k f j (2 * t + 1) v gl n 1) 0 = puI (f t) := by rw [S_inst, (code_at f h).2]
  have hd : doI (runM (S k f j (2 * t + 1) v gl n 1) 0) 0 (puI (f t)) = some (1, 0, setGl (runM (S k f j (2 * t + 1) v gl n 1) 0) (f t) v) := rfl
  rw [stepM_yes rfl hi hd]
  rfl
theorem S_exit (k : Nat) (f : Nat → Nat) (j : Nat) (v : Int) (gl : List Int) (n : Nat) :
    stepM (S k f j (2 * j) v gl n 1) (0 : Nat) = (S k f j (2 * j + 1) v gl n 5, ⟨0, 0, (2 * j : Nat), 0, 0, false⟩, 0) := by
  have hi : instOf (S k f j (2 * j) v gl n 1) 0 = exI := by rw [S_inst, code_end]
  have hd : doI (runM (S k f j (2 * j) v gl n 1) 0) 0 exI = some (5, 0, runM (S k f j (2 * j) v gl n 1) 0) := rfl
  rw [stepM_yes rfl hi hd]
  rfl
/-- The globals after t puts. -/
def glT (k : Nat) (f : Nat → Nat) : Nat → List Int
  | 0 => zeros k
  | t + 1 => (glT k f t).set (f t) ((t : Int) + 1)
theorem glT_len (k : Nat) (f : Nat → Nat) (t : Nat) : (glT k f t).length = k := by
  induction t with
  | zero => simp [glT, zeros]
  | succ t ih => simp [glT, ih]
/-- The model after i steps. -/
def sM (k : Nat) (f : Nat → Nat) (j i : Nat) : Mo := S k f j i (((i + 1) / 2 : Nat) : Int) (glT k f (i / 2)) ((i + 1) / 2) 1
theorem sM_even {k : Nat} {f : Nat → Nat} {j t : Nat} (h : t < j) : stepM (sM k f j (2 * t)) (0 : Nat) = (sM k f j (2 * t + 1), ⟨0, 0, (2 * t : Nat), 1, (t : Int) + 1, false⟩, 0) := by
  unfold sM
  rw [show (2 * t + 1) / 2 = t by omega, show 2 * t / 2 = t by omega, show (2 * t + 1 + 1) / 2 = t + 1 by omega]
  exact S_alloc h _ _ _
theorem sM_odd {k : Nat} {f : Nat → Nat} {j t : Nat} (h : t < j) : stepM (sM k f j (2 * t + 1)) (0 : Nat) = (sM k f j (2 * t + 2), ⟨0, 0, (2 * t + 1 : Nat), 7, 0, false⟩, 0) := by
  unfold sM
  rw [show (2 * t + 1) / 2 = t by omega, show (2 * t + 1 + 1) / 2 = t + 1 by omega, show (2 * t + 2 + 1) / 2 = t + 1 by omega]
  exact S_put h _ _ _
def eM (k : Nat) (f : Nat → Nat) (j : Nat) : Mo := S k f j (2 * j + 1) j (glT k f j) j 5
theorem sM_end (k : Nat) (f : Nat → Nat) (j : Nat) : stepM (sM k f j (2 * j)) (0 : Nat) = (eM k f j, ⟨0, 0, (2 * j : Nat), 0, 0, false⟩, 0) := by
  unfold sM
  rw [show (2 * j + 1) / 2 = j by omega, show 2 * j / 2 = j by omega]
  exact S_exit _ _ _ _ _ _
/-- What can be reached in the end: what the globals have. -/
theorem eM_rch (k : Nat) (f : Nat → Nat) (j : Nat) (v : Int) : Rch (eM k f j) v ↔ v ∈ glT k f j ∧ v ≠ 0 := by
  have hroots : rootsL (eM k f j) = glT k f j ++ [] := rfl
  rw [List.append_nil] at hroots
  constructor
  · intro h
    induction h with
    | root v hv h0 => rw [hroots] at hv; exact ⟨hv, h0⟩
    | slot u v _ hv h0 _ =>
      exfalso
      have : ∀ l ∈ (eM k f j).sl, ∀ x ∈ l, x = 0 := by
        intro l hl x hx
        have hl2 : l = [] ∨ l = [0] := by
          rcases List.mem_cons.1 (show l ∈ ([] : List Int) :: List.replicate j [(0 : Int)] from hl) with e | e
          · exact .inl e
          · exact .inr (List.mem_replicate.1 e).2
        rcases hl2 with rfl | rfl
        · cases hx
        · simpa using hx
      rw [List.getD] at hv
      cases e : (eM k f j).sl[u.toNat]? with
      | none => rw [e] at hv; simp at hv
      | some l => rw [e] at hv; exact h0 (this l (List.mem_of_getElem? e) v hv)
  · rintro ⟨h1, h2⟩
    exact .root v (by rw [hroots]; exact h1) h2
theorem glT_le (k : Nat) (f : Nat → Nat) (t : Nat) : ∀ v ∈ glT k f t, v ≤ t := by
  induction t with
  | zero =>
    intro v hv
    simp only [glT, zeros, List.mem_replicate] at hv
    omega
  | succ t ih =>
    intro v hv
    rcases List.mem_or_eq_of_mem_set hv with hv | rfl
    · have := ih v hv; omega
    · omega
def nz (x : Int) : Bool := x != 0
theorem glT_nodup (k : Nat) (f : Nat → Nat) (t : Nat) : ((glT k f t).filter nz).Nodup := by
  unfold List.Nodup
  rw [List.pairwise_filter, List.pairwise_iff_getElem]
  induction t with
  | zero =>
    intro i j hi hj _ h1
    simp [glT, zeros, nz] at h1
  | succ t ih =>
    intro i j hi hj hij h1 h2
    have hl : (glT k f (t + 1)).length = (glT k f t).length := by rw [glT_len, glT_len]
    simp only [glT, List.getElem_set] at h1 h2 ⊢
    have hfresh : ∀ (a : Nat) (ha : a < (glT k f t).length), (glT k f t)[a] ≠ (t : Int) + 1 := fun a ha e => by
      have := glT_le k f t _ (List.getElem_mem ha)
      omega
    by_cases e1 : f t = i
    · rw [if_pos e1, if_neg (by omega)]
      exact fun e => hfresh j (by omega) e.symm
    · rw [if_neg e1] at h1 ⊢
      by_cases e2 : f t = j
      · rw [if_pos e2]
        exact hfresh i (by omega)
      · rw [if_neg e2] at h2 ⊢
        exact ih i j (by omega) (by omega) hij h1 h2
theorem reachL_nodup (M : Mo) : (reachL M).Nodup := by
  unfold reachL List.Nodup
  rw [List.pairwise_map]
  refine List.Pairwise.imp ?_ ((List.nodup_range).filter _)
  intro a b hab e
  exact hab (by omega)
theorem eM_len {k : Nat} {f : Nat → Nat} {j n0 : Nat} (hg : Good (eM k f j) n0) : (reachL (eM k f j)).length = ((glT k f j).filter nz).length := by
  refine List.Perm.length_eq ((List.perm_ext_iff_of_nodup (reachL_nodup _) (glT_nodup k f j)).2 fun v => ?_)
  rw [mem_reachL, List.mem_filter]
  constructor
  · rintro ⟨q, rfl, _, hr⟩
    obtain ⟨h1, h2⟩ := (eM_rch k f j q).1 hr
    exact ⟨h1, by simpa [nz] using h2⟩
  · rintro ⟨h1, h2⟩
    have hr := (eM_rch k f j v).2 ⟨h1, by simpa [nz] using h2⟩
    obtain ⟨b0, b1⟩ := rch_bd hg hr
    exact ⟨v.toNat, by omega, by omega, by rwa [show ((v.toNat : Nat) : Int) = v by omega]⟩
theorem mem_pairs {f : Nat → Nat} {j : Nat} {x : In} (h : x ∈ pairs f j) : x = alI ∨ ∃ i, i < j ∧ x = puI (f i) := by
  unfold pairs at h
  obtain ⟨i, hi, hx⟩ := List.mem_flatMap.1 h
  rw [List.mem_range] at hi
  simp only [List.mem_cons, List.not_mem_nil, or_false] at hx
  rcases hx with rfl | rfl
  · exact .inl rfl
  · exact .inr ⟨i, hi, rfl⟩
theorem px_ok {k : Nat} {f : Nat → Nat} {j : Nat} (hk : k ≤ 32) (hf : ∀ i, f i < k) (hj : j ≤ 30) : progOK k (px f j) := by
  refine ⟨⟨by simp [px], by simp [px]⟩, by omega, fun l hl => ?_⟩
  simp only [px, List.mem_cons, List.not_mem_nil, or_false] at hl
  subst hl
  have hlen : (code f j).length = 2 * j + 1 := by unfold code; rw [List.length_append, pairs_len]; rfl
  refine ⟨by omega, fun x hx => ?_⟩
  rcases List.mem_append.1 hx with hx | hx
  · rcases mem_pairs hx with rfl | ⟨i, _, rfl⟩
    · simp [instOK, partOK, kindsOf, partsL, most, alI]
    · have := hf i
      simp [instOK, partOK, kindsOf, partsL, most, puI]
      omega
  · simp only [List.mem_cons, List.not_mem_nil, or_false] at hx
    subst hx
    simp [instOK, partOK, kindsOf, partsL, most, exI]
end Go.Proofs.Ytndldoamadmphaa.modelGlobals
