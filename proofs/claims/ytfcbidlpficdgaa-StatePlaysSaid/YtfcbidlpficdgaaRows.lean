/-
  No cell of these rows narrows 'for every input' (looked for: loops, veiled, ifaces, maps, wideKeys, modest, calm, conditions, laid).
  DERIVED. THE GIVEN ROWS OF THIS SEAT. 4 by the template 'for every input the law returns true; each argument reads behind the call as it read before'; 0 by the template 'total and deterministic' (their statements: YtfcbidlpficdgaaTotals.lean).
  GIVEN WITH THE SEED: the statements are not yours to turn. If you find one false, say at which input.
  Laid BY PROGRAM, IN A SANDBOX (cutbox-rows.mjs): the forced cells as the released guide's own fill.sh prints them over the translation 87e68e4d96436bd6… (all of the seat's roots in one cut). By AI agents, Wed Nov 11 2026. No macro, syntax, notation, axiom, sorry.
-/
import Derived.Test.YtfcbidlpficdgaaChecked
import GoSem.Claim
import GoSem.ClaimJoined
import GoSem.ClaimMapViews
import Derived.JoinedTies
import Derived.KernelRfl
namespace Go.Proofs.Ytfcbidlpficdgaa
/- THE CELL 'sum', in the pinned program and in every row, IS THE sha256 OF THE DUMP (.gsa) THAT YtfcbidlpficdgaaProg.lean LOADS. Nothing in Lean hashes anything: it is a label: what it is worth is what the hold of that sum in a sandbox is worth. -/
noncomputable def Try.pinned : Pinned := { name := "ytfcbidlpficdgaa", sum := "87e68e4d96436bd61f6db3746df34b45e4092d68f7719150c14f5380a6838b59", checked := Try.checked }
namespace Rows
def none {H : Type} : Left H := { results := [], args := [] }

/-- 'treadmilllaw12.StatePlays': WHATEVER THE INPUT: true; the input reads as it did. -/
def statePlaysSpec : ChangeSpec := { name := "statePlays", fn := fun _ => fun
  | [d] => { results := [.lit (.bool true)], args := [d] }
  | _ => none }
def statePlaysRow : OpenClaim := { program := "ytfcbidlpficdgaa", sum := "87e68e4d96436bd61f6db3746df34b45e4092d68f7719150c14f5380a6838b59", func := "treadmill/treadmilllaw12.StatePlays", spec := "statePlays", apart := false }
def StatePlaysSaid : Prop := statePlaysRow.holds Try.pinned (OpenSpec.ofChange statePlaysSpec)

/-- ITS FALSE NEIGHBOUR: 'it returns false'. Refute it at one input. -/
def statePlaysWrong : ChangeSpec := { name := "statePlays", fn := fun _ => fun
  | [d] => { results := [.lit (.bool false)], args := [d] }
  | _ => none }
def StatePlaysWrongFalsely : Prop := statePlaysRow.holds Try.pinned (OpenSpec.ofChange statePlaysWrong)

/-- 'treadmilllaw12.StateMay': WHATEVER THE INPUT: true; the input reads as it did. -/
def stateMaySpec : ChangeSpec := { name := "stateMay", fn := fun _ => fun
  | [d1, d2] => { results := [.lit (.bool true)], args := [d1, d2] }
  | _ => none }
def stateMayRow : OpenClaim := { program := "ytfcbidlpficdgaa", sum := "87e68e4d96436bd61f6db3746df34b45e4092d68f7719150c14f5380a6838b59", func := "treadmill/treadmilllaw12.StateMay", spec := "stateMay", apart := false }
def StateMaySaid : Prop := stateMayRow.holds Try.pinned (OpenSpec.ofChange stateMaySpec)

/-- ITS FALSE NEIGHBOUR: 'it returns false'. Refute it at one input. -/
def stateMayWrong : ChangeSpec := { name := "stateMay", fn := fun _ => fun
  | [d1, d2] => { results := [.lit (.bool false)], args := [d1, d2] }
  | _ => none }
def StateMayWrongFalsely : Prop := stateMayRow.holds Try.pinned (OpenSpec.ofChange stateMayWrong)

/-- 'treadmilllaw12.StateMany': WHATEVER THE INPUT: true; the input reads as it did. -/
def stateManySpec : ChangeSpec := { name := "stateMany", fn := fun _ => fun
  | [d1, d2] => { results := [.lit (.bool true)], args := [d1, d2] }
  | _ => none }
def stateManyRow : OpenClaim := { program := "ytfcbidlpficdgaa", sum := "87e68e4d96436bd61f6db3746df34b45e4092d68f7719150c14f5380a6838b59", func := "treadmill/treadmilllaw12.StateMany", spec := "stateMany", apart := false }
def StateManySaid : Prop := stateManyRow.holds Try.pinned (OpenSpec.ofChange stateManySpec)

/-- ITS FALSE NEIGHBOUR: 'it returns false'. Refute it at one input. -/
def stateManyWrong : ChangeSpec := { name := "stateMany", fn := fun _ => fun
  | [d1, d2] => { results := [.lit (.bool false)], args := [d1, d2] }
  | _ => none }
def StateManyWrongFalsely : Prop := stateManyRow.holds Try.pinned (OpenSpec.ofChange stateManyWrong)

/-- 'treadmilllaw12.StateLives': WHATEVER THE INPUT: true; the input reads as it did. -/
def stateLivesSpec : ChangeSpec := { name := "stateLives", fn := fun _ => fun
  | [d] => { results := [.lit (.bool true)], args := [d] }
  | _ => none }
def stateLivesRow : OpenClaim := { program := "ytfcbidlpficdgaa", sum := "87e68e4d96436bd61f6db3746df34b45e4092d68f7719150c14f5380a6838b59", func := "treadmill/treadmilllaw12.StateLives", spec := "stateLives", apart := false }
def StateLivesSaid : Prop := stateLivesRow.holds Try.pinned (OpenSpec.ofChange stateLivesSpec)

/-- ITS FALSE NEIGHBOUR: 'it returns false'. Refute it at one input. -/
def stateLivesWrong : ChangeSpec := { name := "stateLives", fn := fun _ => fun
  | [d] => { results := [.lit (.bool false)], args := [d] }
  | _ => none }
def StateLivesWrongFalsely : Prop := stateLivesRow.holds Try.pinned (OpenSpec.ofChange stateLivesWrong)

/- THE SECOND FORM. 'bulk': how many values and letters a reading holds, each counted each time it is reached (what is shared counts as often as it is met; a slice's spare places count too). A statement '..UptoSaid' is the law's where the arguments, and the package variables that the reading takes, are together of bulk at most 1048576: NARROWER than '..Said'. Prove '..Said' where nothing that the law and all that it calls make is longer than what came in: it says more and counts as full. Else prove '..UptoSaid'. A law counts once. -/
mutual
def uptoBulk {H : Type} : DataW H → Nat
  | .lit (.string bytes) => bytes.length + 1
  | .lit _ => 1
  | .nil => 1
  | .ptr d => uptoBulk d + 1
  | .slice elems spare => uptoBulkAll elems + uptoBulkAll spare + 1
  | .agg parts => uptoBulkAll parts + 1
  | .iface _ d => uptoBulk d + 1
  | .map entries => uptoBulkEntries entries + 1
  | .held _ => 1
def uptoBulkAll {H : Type} : List (DataW H) → Nat
  | [] => 0
  | d :: r => uptoBulk d + uptoBulkAll r
def uptoBulkEntries {H : Type} : List (Lit × DataW H) → Nat
  | [] => 0
  | x :: r => uptoBulkEntry x + uptoBulkEntries r
def uptoBulkEntry {H : Type} : Lit × DataW H → Nat
  | (.string bytes, d) => bytes.length + uptoBulk d + 1
  | (_, d) => uptoBulk d + 1
 end
def uptoSmall : (H : Type) → List (DataW H) → Bool := fun _ ds => decide (uptoBulkAll ds ≤ 1048576)
def OpenSpec.upto (s : _root_.Go.ChangeSpec) : _root_.Go.OpenSpec := { _root_.Go.OpenSpec.ofChange s with cond := some uptoSmall }

/-- 'treadmilllaw12.StatePlays', WHERE WHAT IT READS IS OF BULK AT MOST 1048576: true; the input reads as it did. -/
def statePlaysUptoRow : OpenClaim := { program := "ytfcbidlpficdgaa", sum := "87e68e4d96436bd61f6db3746df34b45e4092d68f7719150c14f5380a6838b59", func := "treadmill/treadmilllaw12.StatePlays", spec := "statePlays", apart := false, narrowed := true }
def StatePlaysUptoSaid : Prop := statePlaysUptoRow.holds Try.pinned (OpenSpec.upto statePlaysSpec)

/-- 'treadmilllaw12.StateMay', WHERE WHAT IT READS IS OF BULK AT MOST 1048576: true; the input reads as it did. -/
def stateMayUptoRow : OpenClaim := { program := "ytfcbidlpficdgaa", sum := "87e68e4d96436bd61f6db3746df34b45e4092d68f7719150c14f5380a6838b59", func := "treadmill/treadmilllaw12.StateMay", spec := "stateMay", apart := false, narrowed := true }
def StateMayUptoSaid : Prop := stateMayUptoRow.holds Try.pinned (OpenSpec.upto stateMaySpec)

/-- 'treadmilllaw12.StateMany', WHERE WHAT IT READS IS OF BULK AT MOST 1048576: true; the input reads as it did. -/
def stateManyUptoRow : OpenClaim := { program := "ytfcbidlpficdgaa", sum := "87e68e4d96436bd61f6db3746df34b45e4092d68f7719150c14f5380a6838b59", func := "treadmill/treadmilllaw12.StateMany", spec := "stateMany", apart := false, narrowed := true }
def StateManyUptoSaid : Prop := stateManyUptoRow.holds Try.pinned (OpenSpec.upto stateManySpec)

/-- 'treadmilllaw12.StateLives', WHERE WHAT IT READS IS OF BULK AT MOST 1048576: true; the input reads as it did. -/
def stateLivesUptoRow : OpenClaim := { program := "ytfcbidlpficdgaa", sum := "87e68e4d96436bd61f6db3746df34b45e4092d68f7719150c14f5380a6838b59", func := "treadmill/treadmilllaw12.StateLives", spec := "stateLives", apart := false, narrowed := true }
def StateLivesUptoSaid : Prop := stateLivesUptoRow.holds Try.pinned (OpenSpec.upto stateLivesSpec)

end Rows
end Go.Proofs.Ytfcbidlpficdgaa
