/-
  No cell of these rows narrows 'for every input' (looked for: loops, veiled, ifaces, maps, wideKeys, modest, calm, conditions, laid).
  DERIVED. THE GIVEN ROWS OF THIS SEAT. 6 by the template 'for every input the law returns true; each argument reads behind the call as it read before'; 0 by the template 'total and deterministic' (their statements: YtmhhppolhciigaaTotals.lean).
  GIVEN WITH THE SEED: the statements are not yours to turn. If you find one false, say at which input.
  Laid BY PROGRAM, IN A SANDBOX (cutbox-rows.mjs): the forced cells as the released guide's own fill.sh prints them over the translation 5e0f5db28487937d… (all of the seat's roots in one cut). By AI agents, Wed Nov 11 2026. No macro, syntax, notation, axiom, sorry.
-/
import Derived.Test.YtmhhppolhciigaaChecked
import GoSem.Claim
import GoSem.ClaimJoined
import GoSem.ClaimMapViews
import Derived.JoinedTies
import Derived.KernelRfl
namespace Go.Proofs.Ytmhhppolhciigaa
/- THE CELL 'sum', in the pinned program and in every row, IS THE sha256 OF THE DUMP (.gsa) THAT YtmhhppolhciigaaProg.lean LOADS. Nothing in Lean hashes anything: it is a label: what it is worth is what the hold of that sum in a sandbox is worth. -/
noncomputable def Try.pinned : Pinned := { name := "ytmhhppolhciigaa", sum := "5e0f5db28487937d52307879b8a80380988dd532e232440f57bf4667f0dc4ff9", checked := Try.checked }
namespace Rows
def none {H : Type} : Left H := { results := [], args := [] }

/-- 'osierlaw01.NumOne': WHATEVER THE INPUT: true; the input reads as it did. -/
def numOneSpec : ChangeSpec := { name := "numOne", fn := fun _ => fun
  | [d] => { results := [.lit (.bool true)], args := [d] }
  | _ => none }
def numOneRow : OpenClaim := { program := "ytmhhppolhciigaa", sum := "5e0f5db28487937d52307879b8a80380988dd532e232440f57bf4667f0dc4ff9", func := "osier/osierlaw01.NumOne", spec := "numOne", apart := false }
def NumOneSaid : Prop := numOneRow.holds Try.pinned (OpenSpec.ofChange numOneSpec)

/-- ITS FALSE NEIGHBOUR: 'it returns false'. Refute it at one input. -/
def numOneWrong : ChangeSpec := { name := "numOne", fn := fun _ => fun
  | [d] => { results := [.lit (.bool false)], args := [d] }
  | _ => none }
def NumOneWrongFalsely : Prop := numOneRow.holds Try.pinned (OpenSpec.ofChange numOneWrong)

/-- 'osierlaw01.NumOrder': WHATEVER THE INPUT: true; the input reads as it did. -/
def numOrderSpec : ChangeSpec := { name := "numOrder", fn := fun _ => fun
  | [d1, d2] => { results := [.lit (.bool true)], args := [d1, d2] }
  | _ => none }
def numOrderRow : OpenClaim := { program := "ytmhhppolhciigaa", sum := "5e0f5db28487937d52307879b8a80380988dd532e232440f57bf4667f0dc4ff9", func := "osier/osierlaw01.NumOrder", spec := "numOrder", apart := false }
def NumOrderSaid : Prop := numOrderRow.holds Try.pinned (OpenSpec.ofChange numOrderSpec)

/-- ITS FALSE NEIGHBOUR: 'it returns false'. Refute it at one input. -/
def numOrderWrong : ChangeSpec := { name := "numOrder", fn := fun _ => fun
  | [d1, d2] => { results := [.lit (.bool false)], args := [d1, d2] }
  | _ => none }
def NumOrderWrongFalsely : Prop := numOrderRow.holds Try.pinned (OpenSpec.ofChange numOrderWrong)

/-- 'osierlaw01.NumSizes': WHATEVER THE INPUT: true; the input reads as it did. -/
def numSizesSpec : ChangeSpec := { name := "numSizes", fn := fun _ => fun
  | [d1, d2] => { results := [.lit (.bool true)], args := [d1, d2] }
  | _ => none }
def numSizesRow : OpenClaim := { program := "ytmhhppolhciigaa", sum := "5e0f5db28487937d52307879b8a80380988dd532e232440f57bf4667f0dc4ff9", func := "osier/osierlaw01.NumSizes", spec := "numSizes", apart := false }
def NumSizesSaid : Prop := numSizesRow.holds Try.pinned (OpenSpec.ofChange numSizesSpec)

/-- ITS FALSE NEIGHBOUR: 'it returns false'. Refute it at one input. -/
def numSizesWrong : ChangeSpec := { name := "numSizes", fn := fun _ => fun
  | [d1, d2] => { results := [.lit (.bool false)], args := [d1, d2] }
  | _ => none }
def NumSizesWrongFalsely : Prop := numSizesRow.holds Try.pinned (OpenSpec.ofChange numSizesWrong)

/-- 'osierlaw01.NumWrites': WHATEVER THE INPUT: true; the input reads as it did. -/
def numWritesSpec : ChangeSpec := { name := "numWrites", fn := fun _ => fun
  | [d1, d2, d3, d4] => { results := [.lit (.bool true)], args := [d1, d2, d3, d4] }
  | _ => none }
def numWritesRow : OpenClaim := { program := "ytmhhppolhciigaa", sum := "5e0f5db28487937d52307879b8a80380988dd532e232440f57bf4667f0dc4ff9", func := "osier/osierlaw01.NumWrites", spec := "numWrites", apart := false }
def NumWritesSaid : Prop := numWritesRow.holds Try.pinned (OpenSpec.ofChange numWritesSpec)

/-- ITS FALSE NEIGHBOUR: 'it returns false'. Refute it at one input. -/
def numWritesWrong : ChangeSpec := { name := "numWrites", fn := fun _ => fun
  | [d1, d2, d3, d4] => { results := [.lit (.bool false)], args := [d1, d2, d3, d4] }
  | _ => none }
def NumWritesWrongFalsely : Prop := numWritesRow.holds Try.pinned (OpenSpec.ofChange numWritesWrong)

/-- 'osierlaw01.NumBack': WHATEVER THE INPUT: true; the input reads as it did. -/
def numBackSpec : ChangeSpec := { name := "numBack", fn := fun _ => fun
  | [d1, d2, d3] => { results := [.lit (.bool true)], args := [d1, d2, d3] }
  | _ => none }
def numBackRow : OpenClaim := { program := "ytmhhppolhciigaa", sum := "5e0f5db28487937d52307879b8a80380988dd532e232440f57bf4667f0dc4ff9", func := "osier/osierlaw01.NumBack", spec := "numBack", apart := false }
def NumBackSaid : Prop := numBackRow.holds Try.pinned (OpenSpec.ofChange numBackSpec)

/-- ITS FALSE NEIGHBOUR: 'it returns false'. Refute it at one input. -/
def numBackWrong : ChangeSpec := { name := "numBack", fn := fun _ => fun
  | [d1, d2, d3] => { results := [.lit (.bool false)], args := [d1, d2, d3] }
  | _ => none }
def NumBackWrongFalsely : Prop := numBackRow.holds Try.pinned (OpenSpec.ofChange numBackWrong)

/-- 'osierlaw01.NumNone': WHATEVER THE INPUT: true; the input reads as it did. -/
def numNoneSpec : ChangeSpec := { name := "numNone", fn := fun _ => fun
  | [d] => { results := [.lit (.bool true)], args := [d] }
  | _ => none }
def numNoneRow : OpenClaim := { program := "ytmhhppolhciigaa", sum := "5e0f5db28487937d52307879b8a80380988dd532e232440f57bf4667f0dc4ff9", func := "osier/osierlaw01.NumNone", spec := "numNone", apart := false }
def NumNoneSaid : Prop := numNoneRow.holds Try.pinned (OpenSpec.ofChange numNoneSpec)

/-- ITS FALSE NEIGHBOUR: 'it returns false'. Refute it at one input. -/
def numNoneWrong : ChangeSpec := { name := "numNone", fn := fun _ => fun
  | [d] => { results := [.lit (.bool false)], args := [d] }
  | _ => none }
def NumNoneWrongFalsely : Prop := numNoneRow.holds Try.pinned (OpenSpec.ofChange numNoneWrong)

/- THE SECOND FORM. 'bulk': how many values and letters a reading holds, each counted each time it is reached (what is shared counts as often as it is met; a slice's spare places count too). A statement '..UptoSaid' is the law's where the arguments, and the package variables that the reading takes, are together of bulk at most 1048576: NARROWER than '..Said'. Prove '..Said' where nothing that the law and all that it calls make is longer than what came in: it says more and counts as full. Else prove '..UptoSaid'. A law counts once. -/
mutual
def uptoBulk {H : Type} : DataW H → Nat
  | .lit (.string bytes) => bytes.length + 1
  | .lit _ => 1
  | .nil => 1
  | .ptr d => uptoBulk d + 1
  | .slice elems spare => uptoBulkAll elems + uptoBulkAll spare + 1
  | .agg parts => uptoBulkAll parts + 1
  | .iface _ d => uptoBulk d + 1
  | .map entries => uptoBulkEntries entries + 1
  | .held _ => 1
def uptoBulkAll {H : Type} : List (DataW H) → Nat
  | [] => 0
  | d :: r => uptoBulk d + uptoBulkAll r
def uptoBulkEntries {H : Type} : List (Lit × DataW H) → Nat
  | [] => 0
  | x :: r => uptoBulkEntry x + uptoBulkEntries r
def uptoBulkEntry {H : Type} : Lit × DataW H → Nat
  | (.string bytes, d) => bytes.length + uptoBulk d + 1
  | (_, d) => uptoBulk d + 1
 end
def uptoSmall : (H : Type) → List (DataW H) → Bool := fun _ ds => decide (uptoBulkAll ds ≤ 1048576)
def OpenSpec.upto (s : _root_.Go.ChangeSpec) : _root_.Go.OpenSpec := { _root_.Go.OpenSpec.ofChange s with cond := some uptoSmall }

/-- 'osierlaw01.NumOne', WHERE WHAT IT READS IS OF BULK AT MOST 1048576: true; the input reads as it did. -/
def numOneUptoRow : OpenClaim := { program := "ytmhhppolhciigaa", sum := "5e0f5db28487937d52307879b8a80380988dd532e232440f57bf4667f0dc4ff9", func := "osier/osierlaw01.NumOne", spec := "numOne", apart := false, narrowed := true }
def NumOneUptoSaid : Prop := numOneUptoRow.holds Try.pinned (OpenSpec.upto numOneSpec)

/-- 'osierlaw01.NumOrder', WHERE WHAT IT READS IS OF BULK AT MOST 1048576: true; the input reads as it did. -/
def numOrderUptoRow : OpenClaim := { program := "ytmhhppolhciigaa", sum := "5e0f5db28487937d52307879b8a80380988dd532e232440f57bf4667f0dc4ff9", func := "osier/osierlaw01.NumOrder", spec := "numOrder", apart := false, narrowed := true }
def NumOrderUptoSaid : Prop := numOrderUptoRow.holds Try.pinned (OpenSpec.upto numOrderSpec)

/-- 'osierlaw01.NumSizes', WHERE WHAT IT READS IS OF BULK AT MOST 1048576: true; the input reads as it did. -/
def numSizesUptoRow : OpenClaim := { program := "ytmhhppolhciigaa", sum := "5e0f5db28487937d52307879b8a80380988dd532e232440f57bf4667f0dc4ff9", func := "osier/osierlaw01.NumSizes", spec := "numSizes", apart := false, narrowed := true }
def NumSizesUptoSaid : Prop := numSizesUptoRow.holds Try.pinned (OpenSpec.upto numSizesSpec)

/-- 'osierlaw01.NumWrites', WHERE WHAT IT READS IS OF BULK AT MOST 1048576: true; the input reads as it did. -/
def numWritesUptoRow : OpenClaim := { program := "ytmhhppolhciigaa", sum := "5e0f5db28487937d52307879b8a80380988dd532e232440f57bf4667f0dc4ff9", func := "osier/osierlaw01.NumWrites", spec := "numWrites", apart := false, narrowed := true }
def NumWritesUptoSaid : Prop := numWritesUptoRow.holds Try.pinned (OpenSpec.upto numWritesSpec)

/-- 'osierlaw01.NumBack', WHERE WHAT IT READS IS OF BULK AT MOST 1048576: true; the input reads as it did. -/
def numBackUptoRow : OpenClaim := { program := "ytmhhppolhciigaa", sum := "5e0f5db28487937d52307879b8a80380988dd532e232440f57bf4667f0dc4ff9", func := "osier/osierlaw01.NumBack", spec := "numBack", apart := false, narrowed := true }
def NumBackUptoSaid : Prop := numBackUptoRow.holds Try.pinned (OpenSpec.upto numBackSpec)

/-- 'osierlaw01.NumNone', WHERE WHAT IT READS IS OF BULK AT MOST 1048576: true; the input reads as it did. -/
def numNoneUptoRow : OpenClaim := { program := "ytmhhppolhciigaa", sum := "5e0f5db28487937d52307879b8a80380988dd532e232440f57bf4667f0dc4ff9", func := "osier/osierlaw01.NumNone", spec := "numNone", apart := false, narrowed := true }
def NumNoneUptoSaid : Prop := numNoneUptoRow.holds Try.pinned (OpenSpec.upto numNoneSpec)

end Rows
end Go.Proofs.Ytmhhppolhciigaa
