/-
  No cell of these rows narrows 'for every input' (looked for: loops, veiled, ifaces, maps, wideKeys, modest, calm, conditions, laid).
  DERIVED. THE GIVEN ROWS OF THIS SEAT. 9 by the template 'for every input the law returns true; each argument reads behind the call as it read before'; 0 by the template 'total and deterministic' (their statements: YtndldoamadmphaaTotals.lean).
  GIVEN WITH THE SEED: the statements are not yours to turn. If you find one false, say at which input.
  Laid BY PROGRAM, IN A SANDBOX (cutbox-rows.mjs): the forced cells as the released guide's own fill.sh prints them over the translation 1a17ff01b23a6fe4… (all of the seat's roots in one cut). By AI agents, Wed Nov 11 2026. No macro, syntax, notation, axiom, sorry.
-/
import Derived.Test.YtndldoamadmphaaChecked
import GoSem.Claim
import GoSem.ClaimJoined
import GoSem.ClaimMapViews
import Derived.JoinedTies
import Derived.KernelRfl
namespace Go.Proofs.Ytndldoamadmphaa
/- THE CELL 'sum', in the pinned program and in every row, IS THE sha256 OF THE DUMP (.gsa) THAT YtndldoamadmphaaProg.lean LOADS. Nothing in Lean hashes anything: it is a label: what it is worth is what the hold of that sum in a sandbox is worth. -/
noncomputable def Try.pinned : Pinned := { name := "ytndldoamadmphaa", sum := "1a17ff01b23a6fe451195b52f2bee00493bb257e0b0eaeb54d45cb000d8aa43a", checked := Try.checked }
namespace Rows
def none {H : Type} : Left H := { results := [], args := [] }

/-- 'treadmilllaw16.ModelAlone': WHATEVER THE INPUT: true; the input reads as it did. -/
def modelAloneSpec : ChangeSpec := { name := "modelAlone", fn := fun _ => fun
  | [d1, d2] => { results := [.lit (.bool true)], args := [d1, d2] }
  | _ => none }
def modelAloneRow : OpenClaim := { program := "ytndldoamadmphaa", sum := "1a17ff01b23a6fe451195b52f2bee00493bb257e0b0eaeb54d45cb000d8aa43a", func := "treadmill/treadmilllaw16.ModelAlone", spec := "modelAlone", unfollowed := true, recurses := true, apart := false }
def ModelAloneSaid : Prop := modelAloneRow.holds Try.pinned (OpenSpec.ofChange modelAloneSpec)

/-- ITS FALSE NEIGHBOUR: 'it returns false'. Refute it at one input. -/
def modelAloneWrong : ChangeSpec := { name := "modelAlone", fn := fun _ => fun
  | [d1, d2] => { results := [.lit (.bool false)], args := [d1, d2] }
  | _ => none }
def ModelAloneWrongFalsely : Prop := modelAloneRow.holds Try.pinned (OpenSpec.ofChange modelAloneWrong)

/-- 'treadmilllaw16.ModelFaults': WHATEVER THE INPUT: true; the input reads as it did. -/
def modelFaultsSpec : ChangeSpec := { name := "modelFaults", fn := fun _ => fun
  | [d1, d2, d3] => { results := [.lit (.bool true)], args := [d1, d2, d3] }
  | _ => none }
def modelFaultsRow : OpenClaim := { program := "ytndldoamadmphaa", sum := "1a17ff01b23a6fe451195b52f2bee00493bb257e0b0eaeb54d45cb000d8aa43a", func := "treadmill/treadmilllaw16.ModelFaults", spec := "modelFaults", unfollowed := true, recurses := true, apart := false }
def ModelFaultsSaid : Prop := modelFaultsRow.holds Try.pinned (OpenSpec.ofChange modelFaultsSpec)

/-- ITS FALSE NEIGHBOUR: 'it returns false'. Refute it at one input. -/
def modelFaultsWrong : ChangeSpec := { name := "modelFaults", fn := fun _ => fun
  | [d1, d2, d3] => { results := [.lit (.bool false)], args := [d1, d2, d3] }
  | _ => none }
def ModelFaultsWrongFalsely : Prop := modelFaultsRow.holds Try.pinned (OpenSpec.ofChange modelFaultsWrong)

/-- 'treadmilllaw16.ModelGlobals': WHATEVER THE INPUT: true; the input reads as it did. -/
def modelGlobalsSpec : ChangeSpec := { name := "modelGlobals", fn := fun _ => fun
  | [d1, d2] => { results := [.lit (.bool true)], args := [d1, d2] }
  | _ => none }
def modelGlobalsRow : OpenClaim := { program := "ytndldoamadmphaa", sum := "1a17ff01b23a6fe451195b52f2bee00493bb257e0b0eaeb54d45cb000d8aa43a", func := "treadmill/treadmilllaw16.ModelGlobals", spec := "modelGlobals", unfollowed := true, recurses := true, apart := false }
def ModelGlobalsSaid : Prop := modelGlobalsRow.holds Try.pinned (OpenSpec.ofChange modelGlobalsSpec)

/-- ITS FALSE NEIGHBOUR: 'it returns false'. Refute it at one input. -/
def modelGlobalsWrong : ChangeSpec := { name := "modelGlobals", fn := fun _ => fun
  | [d1, d2] => { results := [.lit (.bool false)], args := [d1, d2] }
  | _ => none }
def ModelGlobalsWrongFalsely : Prop := modelGlobalsRow.holds Try.pinned (OpenSpec.ofChange modelGlobalsWrong)

/-- 'treadmilllaw16.ModelLists': WHATEVER THE INPUT: true; the input reads as it did. -/
def modelListsSpec : ChangeSpec := { name := "modelLists", fn := fun _ => fun
  | [d] => { results := [.lit (.bool true)], args := [d] }
  | _ => none }
def modelListsRow : OpenClaim := { program := "ytndldoamadmphaa", sum := "1a17ff01b23a6fe451195b52f2bee00493bb257e0b0eaeb54d45cb000d8aa43a", func := "treadmill/treadmilllaw16.ModelLists", spec := "modelLists", unfollowed := true, recurses := true, apart := false }
def ModelListsSaid : Prop := modelListsRow.holds Try.pinned (OpenSpec.ofChange modelListsSpec)

/-- ITS FALSE NEIGHBOUR: 'it returns false'. Refute it at one input. -/
def modelListsWrong : ChangeSpec := { name := "modelLists", fn := fun _ => fun
  | [d] => { results := [.lit (.bool false)], args := [d] }
  | _ => none }
def ModelListsWrongFalsely : Prop := modelListsRow.holds Try.pinned (OpenSpec.ofChange modelListsWrong)

/-- 'treadmilllaw16.ModelWakes': WHATEVER THE INPUT: true; the input reads as it did. -/
def modelWakesSpec : ChangeSpec := { name := "modelWakes", fn := fun _ => fun
  | [d1, d2] => { results := [.lit (.bool true)], args := [d1, d2] }
  | _ => none }
def modelWakesRow : OpenClaim := { program := "ytndldoamadmphaa", sum := "1a17ff01b23a6fe451195b52f2bee00493bb257e0b0eaeb54d45cb000d8aa43a", func := "treadmill/treadmilllaw16.ModelWakes", spec := "modelWakes", unfollowed := true, recurses := true, apart := false }
def ModelWakesSaid : Prop := modelWakesRow.holds Try.pinned (OpenSpec.ofChange modelWakesSpec)

/-- ITS FALSE NEIGHBOUR: 'it returns false'. Refute it at one input. -/
def modelWakesWrong : ChangeSpec := { name := "modelWakes", fn := fun _ => fun
  | [d1, d2] => { results := [.lit (.bool false)], args := [d1, d2] }
  | _ => none }
def ModelWakesWrongFalsely : Prop := modelWakesRow.holds Try.pinned (OpenSpec.ofChange modelWakesWrong)

/-- 'treadmilllaw16.ModelCounts': WHATEVER THE INPUT: true; the input reads as it did. -/
def modelCountsSpec : ChangeSpec := { name := "modelCounts", fn := fun _ => fun
  | [d1, d2] => { results := [.lit (.bool true)], args := [d1, d2] }
  | _ => none }
def modelCountsRow : OpenClaim := { program := "ytndldoamadmphaa", sum := "1a17ff01b23a6fe451195b52f2bee00493bb257e0b0eaeb54d45cb000d8aa43a", func := "treadmill/treadmilllaw16.ModelCounts", spec := "modelCounts", unfollowed := true, recurses := true, apart := false }
def ModelCountsSaid : Prop := modelCountsRow.holds Try.pinned (OpenSpec.ofChange modelCountsSpec)

/-- ITS FALSE NEIGHBOUR: 'it returns false'. Refute it at one input. -/
def modelCountsWrong : ChangeSpec := { name := "modelCounts", fn := fun _ => fun
  | [d1, d2] => { results := [.lit (.bool false)], args := [d1, d2] }
  | _ => none }
def ModelCountsWrongFalsely : Prop := modelCountsRow.holds Try.pinned (OpenSpec.ofChange modelCountsWrong)

/-- 'treadmilllaw16.ModelNobody': WHATEVER THE INPUT: true; the input reads as it did. -/
def modelNobodySpec : ChangeSpec := { name := "modelNobody", fn := fun _ => fun
  | [d] => { results := [.lit (.bool true)], args := [d] }
  | _ => none }
def modelNobodyRow : OpenClaim := { program := "ytndldoamadmphaa", sum := "1a17ff01b23a6fe451195b52f2bee00493bb257e0b0eaeb54d45cb000d8aa43a", func := "treadmill/treadmilllaw16.ModelNobody", spec := "modelNobody", unfollowed := true, recurses := true, apart := false }
def ModelNobodySaid : Prop := modelNobodyRow.holds Try.pinned (OpenSpec.ofChange modelNobodySpec)

/-- ITS FALSE NEIGHBOUR: 'it returns false'. Refute it at one input. -/
def modelNobodyWrong : ChangeSpec := { name := "modelNobody", fn := fun _ => fun
  | [d] => { results := [.lit (.bool false)], args := [d] }
  | _ => none }
def ModelNobodyWrongFalsely : Prop := modelNobodyRow.holds Try.pinned (OpenSpec.ofChange modelNobodyWrong)

/-- 'treadmilllaw16.ModelReach': WHATEVER THE INPUT: true; the input reads as it did. -/
def modelReachSpec : ChangeSpec := { name := "modelReach", fn := fun _ => fun
  | [d1, d2] => { results := [.lit (.bool true)], args := [d1, d2] }
  | _ => none }
def modelReachRow : OpenClaim := { program := "ytndldoamadmphaa", sum := "1a17ff01b23a6fe451195b52f2bee00493bb257e0b0eaeb54d45cb000d8aa43a", func := "treadmill/treadmilllaw16.ModelReach", spec := "modelReach", unfollowed := true, recurses := true, apart := false }
def ModelReachSaid : Prop := modelReachRow.holds Try.pinned (OpenSpec.ofChange modelReachSpec)

/-- ITS FALSE NEIGHBOUR: 'it returns false'. Refute it at one input. -/
def modelReachWrong : ChangeSpec := { name := "modelReach", fn := fun _ => fun
  | [d1, d2] => { results := [.lit (.bool false)], args := [d1, d2] }
  | _ => none }
def ModelReachWrongFalsely : Prop := modelReachRow.holds Try.pinned (OpenSpec.ofChange modelReachWrong)

/-- 'treadmilllaw16.ModelSleeps': WHATEVER THE INPUT: true; the input reads as it did. -/
def modelSleepsSpec : ChangeSpec := { name := "modelSleeps", fn := fun _ => fun
  | [d1, d2, d3, d4] => { results := [.lit (.bool true)], args := [d1, d2, d3, d4] }
  | _ => none }
def modelSleepsRow : OpenClaim := { program := "ytndldoamadmphaa", sum := "1a17ff01b23a6fe451195b52f2bee00493bb257e0b0eaeb54d45cb000d8aa43a", func := "treadmill/treadmilllaw16.ModelSleeps", spec := "modelSleeps", unfollowed := true, recurses := true, apart := false }
def ModelSleepsSaid : Prop := modelSleepsRow.holds Try.pinned (OpenSpec.ofChange modelSleepsSpec)

/-- ITS FALSE NEIGHBOUR: 'it returns false'. Refute it at one input. -/
def modelSleepsWrong : ChangeSpec := { name := "modelSleeps", fn := fun _ => fun
  | [d1, d2, d3, d4] => { results := [.lit (.bool false)], args := [d1, d2, d3, d4] }
  | _ => none }
def ModelSleepsWrongFalsely : Prop := modelSleepsRow.holds Try.pinned (OpenSpec.ofChange modelSleepsWrong)

/- THE SECOND FORM. 'bulk': how many values and letters a reading holds, each counted each time it is reached (what is shared counts as often as it is met; a slice's spare places count too). A statement '..UptoSaid' is the law's where the arguments, and the package variables that the reading takes, are together of bulk at most 1048576: NARROWER than '..Said'. Prove '..Said' where nothing that the law and all that it calls make is longer than what came in: it says more and counts as full. Else prove '..UptoSaid'. A law counts once. -/
mutual
def uptoBulk {H : Type} : DataW H → Nat
  | .lit (.string bytes) => bytes.length + 1
  | .lit _ => 1
  | .nil => 1
  | .ptr d => uptoBulk d + 1
  | .slice elems spare => uptoBulkAll elems + uptoBulkAll spare + 1
  | .agg parts => uptoBulkAll parts + 1
  | .iface _ d => uptoBulk d + 1
  | .map entries => uptoBulkEntries entries + 1
  | .held _ => 1
def uptoBulkAll {H : Type} : List (DataW H) → Nat
  | [] => 0
  | d :: r => uptoBulk d + uptoBulkAll r
def uptoBulkEntries {H : Type} : List (Lit × DataW H) → Nat
  | [] => 0
  | x :: r => uptoBulkEntry x + uptoBulkEntries r
def uptoBulkEntry {H : Type} : Lit × DataW H → Nat
  | (.string bytes, d) => bytes.length + uptoBulk d + 1
  | (_, d) => uptoBulk d + 1
 end
def uptoSmall : (H : Type) → List (DataW H) → Bool := fun _ ds => decide (uptoBulkAll ds ≤ 1048576)
def OpenSpec.upto (s : _root_.Go.ChangeSpec) : _root_.Go.OpenSpec := { _root_.Go.OpenSpec.ofChange s with cond := some uptoSmall }

/-- 'treadmilllaw16.ModelAlone', WHERE WHAT IT READS IS OF BULK AT MOST 1048576: true; the input reads as it did. -/
def modelAloneUptoRow : OpenClaim := { program := "ytndldoamadmphaa", sum := "1a17ff01b23a6fe451195b52f2bee00493bb257e0b0eaeb54d45cb000d8aa43a", func := "treadmill/treadmilllaw16.ModelAlone", spec := "modelAlone", unfollowed := true, recurses := true, apart := false, narrowed := true }
def ModelAloneUptoSaid : Prop := modelAloneUptoRow.holds Try.pinned (OpenSpec.upto modelAloneSpec)

/-- 'treadmilllaw16.ModelFaults', WHERE WHAT IT READS IS OF BULK AT MOST 1048576: true; the input reads as it did. -/
def modelFaultsUptoRow : OpenClaim := { program := "ytndldoamadmphaa", sum := "1a17ff01b23a6fe451195b52f2bee00493bb257e0b0eaeb54d45cb000d8aa43a", func := "treadmill/treadmilllaw16.ModelFaults", spec := "modelFaults", unfollowed := true, recurses := true, apart := false, narrowed := true }
def ModelFaultsUptoSaid : Prop := modelFaultsUptoRow.holds Try.pinned (OpenSpec.upto modelFaultsSpec)

/-- 'treadmilllaw16.ModelGlobals', WHERE WHAT IT READS IS OF BULK AT MOST 1048576: true; the input reads as it did. -/
def modelGlobalsUptoRow : OpenClaim := { program := "ytndldoamadmphaa", sum := "1a17ff01b23a6fe451195b52f2bee00493bb257e0b0eaeb54d45cb000d8aa43a", func := "treadmill/treadmilllaw16.ModelGlobals", spec := "modelGlobals", unfollowed := true, recurses := true, apart := false, narrowed := true }
def ModelGlobalsUptoSaid : Prop := modelGlobalsUptoRow.holds Try.pinned (OpenSpec.upto modelGlobalsSpec)

/-- 'treadmilllaw16.ModelLists', WHERE WHAT IT READS IS OF BULK AT MOST 1048576: true; the input reads as it did. -/
def modelListsUptoRow : OpenClaim := { program := "ytndldoamadmphaa", sum := "1a17ff01b23a6fe451195b52f2bee00493bb257e0b0eaeb54d45cb000d8aa43a", func := "treadmill/treadmilllaw16.ModelLists", spec := "modelLists", unfollowed := true, recurses := true, apart := false, narrowed := true }
def ModelListsUptoSaid : Prop := modelListsUptoRow.holds Try.pinned (OpenSpec.upto modelListsSpec)

/-- 'treadmilllaw16.ModelWakes', WHERE WHAT IT READS IS OF BULK AT MOST 1048576: true; the input reads as it did. -/
def modelWakesUptoRow : OpenClaim := { program := "ytndldoamadmphaa", sum := "1a17ff01b23a6fe451195b52f2bee00493bb257e0b0eaeb54d45cb000d8aa43a", func := "treadmill/treadmilllaw16.ModelWakes", spec := "modelWakes", unfollowed := true, recurses := true, apart := false, narrowed := true }
def ModelWakesUptoSaid : Prop := modelWakesUptoRow.holds Try.pinned (OpenSpec.upto modelWakesSpec)

/-- 'treadmilllaw16.ModelCounts', WHERE WHAT IT READS IS OF BULK AT MOST 1048576: true; the input reads as it did. -/
def modelCountsUptoRow : OpenClaim := { program := "ytndldoamadmphaa", sum := "1a17ff01b23a6fe451195b52f2bee00493bb257e0b0eaeb54d45cb000d8aa43a", func := "treadmill/treadmilllaw16.ModelCounts", spec := "modelCounts", unfollowed := true, recurses := true, apart := false, narrowed := true }
def ModelCountsUptoSaid : Prop := modelCountsUptoRow.holds Try.pinned (OpenSpec.upto modelCountsSpec)

/-- 'treadmilllaw16.ModelNobody', WHERE WHAT IT READS IS OF BULK AT MOST 1048576: true; the input reads as it did. -/
def modelNobodyUptoRow : OpenClaim := { program := "ytndldoamadmphaa", sum := "1a17ff01b23a6fe451195b52f2bee00493bb257e0b0eaeb54d45cb000d8aa43a", func := "treadmill/treadmilllaw16.ModelNobody", spec := "modelNobody", unfollowed := true, recurses := true, apart := false, narrowed := true }
def ModelNobodyUptoSaid : Prop := modelNobodyUptoRow.holds Try.pinned (OpenSpec.upto modelNobodySpec)

/-- 'treadmilllaw16.ModelReach', WHERE WHAT IT READS IS OF BULK AT MOST 1048576: true; the input reads as it did. -/
def modelReachUptoRow : OpenClaim := { program := "ytndldoamadmphaa", sum := "1a17ff01b23a6fe451195b52f2bee00493bb257e0b0eaeb54d45cb000d8aa43a", func := "treadmill/treadmilllaw16.ModelReach", spec := "modelReach", unfollowed := true, recurses := true, apart := false, narrowed := true }
def ModelReachUptoSaid : Prop := modelReachUptoRow.holds Try.pinned (OpenSpec.upto modelReachSpec)

/-- 'treadmilllaw16.ModelSleeps', WHERE WHAT IT READS IS OF BULK AT MOST 1048576: true; the input reads as it did. -/
def modelSleepsUptoRow : OpenClaim := { program := "ytndldoamadmphaa", sum := "1a17ff01b23a6fe451195b52f2bee00493bb257e0b0eaeb54d45cb000d8aa43a", func := "treadmill/treadmilllaw16.ModelSleeps", spec := "modelSleeps", unfollowed := true, recurses := true, apart := false, narrowed := true }
def ModelSleepsUptoSaid : Prop := modelSleepsUptoRow.holds Try.pinned (OpenSpec.upto modelSleepsSpec)

end Rows
end Go.Proofs.Ytndldoamadmphaa
