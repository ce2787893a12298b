/- ModelLists: the model's steps, reckoned by the kernel; a search that can be reckoned. -/
import Derived.Test.YtndldoamadmphaaLawC
namespace Go.Proofs.Ytndldoamadmphaa
/-- The search, so many rounds at most. -/
def searchC (M : Mo) : Nat → List Int → List Bool → Option (List Bool)
  | 0, _, _ => none
  | n + 1, td, seen =>
    match td.reverse with
    | [] => some seen
    | x :: r => if x = 0 ∨ seen.getD x.toNat false = true then searchC M n r.reverse seen else searchC M n (r.reverse ++ M.sl.getD x.toNat []) (seen.set x.toNat true)
theorem searchC_ok {M : Mo} {n0 : Nat} (ok : Good M n0) : ∀ (n : Nat) (td : List Int) (seen s : List Bool), Srch M td seen → searchC M n td seen = some s → Srch M [] s
  | 0, _, _, _, _, h => by cases h
  | n + 1, td, seen, s, hs, h => by
    unfold searchC at h
    cases e : td.reverse with
    | nil =>
      rw [e] at h
      injection h with h
      subst h
      have : td = [] := by simpa using e
      rw [this] at hs
      exact hs
    | cons x r =>
      rw [e] at h
      have ht : td = r.reverse ++ [x] := by
        have := congrArg List.reverse e
        simpa using this
      rw [ht] at hs
      simp only at h
      split at h
      · rename_i hx
        exact searchC_ok ok n _ _ s (hs.skip hx) h
      · rename_i hx
        exact searchC_ok ok n _ _ s (hs.mark ok (fun e => hx (.inl e))) h
def reachC (M : Mo) (n : Nat) : Option (List Int) := (searchC M n (rootsL M) (List.replicate M.sl.length false)).map fun s => seenTo s M.sl.length
theorem reachC_ok {M : Mo} {n0 n : Nat} (ok : Good M n0) {l : List Int} (h : reachC M n = some l) : reachL M = l := by
  unfold reachC at h
  cases e : searchC M n (rootsL M) (List.replicate M.sl.length false) with
  | none => rw [e] at h; cases h
  | some s =>
    rw [e] at h
    injection h with h
    have hs := searchC_ok ok n _ _ s (Srch.start ok) e
    rw [← h, ← reachL_of (M := M) (seen := s) (fun k _ => hs.done k)]
    rfl
end Go.Proofs.Ytndldoamadmphaa
namespace Go.Proofs.Ytndldoamadmphaa.modelLists
def alI : In := ⟨1, 1, 1, 0⟩
def soI : In := ⟨3, 1, 0, 0⟩
def mvI : In := ⟨4, 0, 1, 0⟩
def n1I : In := ⟨5, 1, 0, 0⟩
def n0I : In := ⟨5, 0, 0, 0⟩
def node (k : Nat) : List In := (List.replicate k [alI, soI, mvI]).flatten
def px (k : Nat) : List (List In) := [node k ++ [n1I, n0I]]
def st (k : Nat) : Nat → Mo
  | 0 => newM 0 (px k)
  | i + 1 => (stepM (st k i) 0).1
def okS (k i : Nat) : Bool := decide ((stepM (st k i) 0).2.2 = 0) && !(stepM (st k i) 0).2.1.fault
def okL (k : Nat) : Bool := (List.range (3 * k + 1)).all (okS k) && decide ((reachC (st k (3 * k + 1)) 1000).map List.length = some k) && decide (reachC (st k (3 * k + 2)) 1000 = some []) && decide ((st k (3 * k + 2)).sl.length = k + 1) &&
  (List.range k).all (fun j => decide (slotsL (st k (3 * k + 2)) (j + 1 : Nat) = [(j : Int), 0]))
set_option maxRecDepth 1000000 in
theorem ok_all : (List.range 20).all (fun k => okL (k + 1)) = true := by decide +kernel
end Go.Proofs.Ytndldoamadmphaa.modelLists
