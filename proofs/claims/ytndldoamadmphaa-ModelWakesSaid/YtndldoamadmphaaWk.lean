/- ModelWakes: the model's steps, reckoned. -/
import Derived.Test.YtndldoamadmphaaLawM
namespace Go.Proofs.Ytndldoamadmphaa.modelWakes
def spI : In := ⟨8, 1, 0, 0⟩
def wkI : In := ⟨12, 3, 0, 0⟩
def blI : In := ⟨11, 3, 0, 0⟩
def px (k w : Nat) : List (List In) := [List.replicate k spI ++ List.replicate w wkI ++ [blI], [blI]]
def st3 (k w : Nat) : Nat → Mo
  | 0 => newM 0 (px k w)
  | i + 1 => (stepM (stepM (st3 k w i) 0).1 (i + 1 : Nat)).1
def ok3 (k w i : Nat) : Bool := decide ((stepM (st3 k w i) 0).2.2 = 0) && decide ((stepM (st3 k w i) 0).2.1.v = (i : Int) + 1) && decide ((stepM (stepM (st3 k w i) 0).1 (i + 1 : Nat)).2.2 = 0)
def st4 (k w : Nat) : Nat → Mo
  | 0 => st3 k w k
  | i + 1 => (stepM (st4 k w i) 0).1
def ok4 (k w i : Nat) : Bool := decide ((stepM (st4 k w i) 0).2.2 = 0) && decide ((stepM (st4 k w i) 0).2.1.v = if i < k then (i : Int) + 1 else -1) && (decide (k ≤ i) || decide (stateM (st4 k w (i + 1)) (i + 1 : Nat) = 1))
def st6 (k w : Nat) : Nat → Mo
  | 0 => (stepM (st4 k w w) 0).1
  | i + 1 => (stepM (st6 k w i) (i + 1 : Nat)).1
def okAll (k w : Nat) : Bool := (List.range k).all (ok3 k w) && (List.range w).all (ok4 k w) && decide ((stepM (st4 k w w) 0).2.2 = 0) && stuckB (st6 k w (min w k))
def okK (k : Nat) : Bool := (List.range 25).all (okAll k)
end Go.Proofs.Ytndldoamadmphaa.modelWakes
