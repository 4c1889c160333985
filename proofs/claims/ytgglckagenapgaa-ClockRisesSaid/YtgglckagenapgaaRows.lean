/-
  No cell of these rows narrows 'for every input' (looked for: loops, veiled, ifaces, maps, wideKeys, modest, calm, conditions, laid).
  DERIVED. THE GIVEN ROWS OF THIS SEAT. 5 by the template 'for every input the law returns true; each argument reads behind the call as it read before'; 0 by the template 'total and deterministic' (their statements: YtgglckagenapgaaTotals.lean).
  GIVEN WITH THE SEED: the statements are not yours to turn. If you find one false, say at which input.
  Laid BY PROGRAM, IN A SANDBOX (cutbox-rows.mjs): the forced cells as the released guide's own fill.sh prints them over the translation a0d2b3db0110dcbe… (all of the seat's roots in one cut). By AI agents, Wed Nov 11 2026. No macro, syntax, notation, axiom, sorry.
-/
import Derived.Test.YtgglckagenapgaaChecked
import GoSem.Claim
import GoSem.ClaimJoined
import GoSem.ClaimMapViews
import Derived.JoinedTies
import Derived.KernelRfl
namespace Go.Proofs.Ytgglckagenapgaa
/- THE CELL 'sum', in the pinned program and in every row, IS THE sha256 OF THE DUMP (.gsa) THAT YtgglckagenapgaaProg.lean LOADS. Nothing in Lean hashes anything: it is a label: what it is worth is what the hold of that sum in a sandbox is worth. -/
noncomputable def Try.pinned : Pinned := { name := "ytgglckagenapgaa", sum := "a0d2b3db0110dcbea8f5a79185494a8e21ff255fce58bff898b232bc5bb73103", checked := Try.checked }
namespace Rows
def none {H : Type} : Left H := { results := [], args := [] }

/-- 'osierlaw05.ClockActors': WHATEVER THE INPUT: true; the input reads as it did. -/
def clockActorsSpec : ChangeSpec := { name := "clockActors", fn := fun _ => fun
  | [d1, d2, d3] => { results := [.lit (.bool true)], args := [d1, d2, d3] }
  | _ => none }
def clockActorsRow : OpenClaim := { program := "ytgglckagenapgaa", sum := "a0d2b3db0110dcbea8f5a79185494a8e21ff255fce58bff898b232bc5bb73103", func := "osier/osierlaw05.ClockActors", spec := "clockActors", apart := false }
def ClockActorsSaid : Prop := clockActorsRow.holds Try.pinned (OpenSpec.ofChange clockActorsSpec)

/-- ITS FALSE NEIGHBOUR: 'it returns false'. Refute it at one input. -/
def clockActorsWrong : ChangeSpec := { name := "clockActors", fn := fun _ => fun
  | [d1, d2, d3] => { results := [.lit (.bool false)], args := [d1, d2, d3] }
  | _ => none }
def ClockActorsWrongFalsely : Prop := clockActorsRow.holds Try.pinned (OpenSpec.ofChange clockActorsWrong)

/-- 'osierlaw05.ClockPairs': WHATEVER THE INPUT: true; the input reads as it did. -/
def clockPairsSpec : ChangeSpec := { name := "clockPairs", fn := fun _ => fun
  | [d1, d2, d3, d4] => { results := [.lit (.bool true)], args := [d1, d2, d3, d4] }
  | _ => none }
def clockPairsRow : OpenClaim := { program := "ytgglckagenapgaa", sum := "a0d2b3db0110dcbea8f5a79185494a8e21ff255fce58bff898b232bc5bb73103", func := "osier/osierlaw05.ClockPairs", spec := "clockPairs", apart := false }
def ClockPairsSaid : Prop := clockPairsRow.holds Try.pinned (OpenSpec.ofChange clockPairsSpec)

/-- ITS FALSE NEIGHBOUR: 'it returns false'. Refute it at one input. -/
def clockPairsWrong : ChangeSpec := { name := "clockPairs", fn := fun _ => fun
  | [d1, d2, d3, d4] => { results := [.lit (.bool false)], args := [d1, d2, d3, d4] }
  | _ => none }
def ClockPairsWrongFalsely : Prop := clockPairsRow.holds Try.pinned (OpenSpec.ofChange clockPairsWrong)

/-- 'osierlaw05.ClockRises': WHATEVER THE INPUT: true; the input reads as it did. -/
def clockRisesSpec : ChangeSpec := { name := "clockRises", fn := fun _ => fun
  | [d] => { results := [.lit (.bool true)], args := [d] }
  | _ => none }
def clockRisesRow : OpenClaim := { program := "ytgglckagenapgaa", sum := "a0d2b3db0110dcbea8f5a79185494a8e21ff255fce58bff898b232bc5bb73103", func := "osier/osierlaw05.ClockRises", spec := "clockRises", apart := false }
def ClockRisesSaid : Prop := clockRisesRow.holds Try.pinned (OpenSpec.ofChange clockRisesSpec)

/-- ITS FALSE NEIGHBOUR: 'it returns false'. Refute it at one input. -/
def clockRisesWrong : ChangeSpec := { name := "clockRises", fn := fun _ => fun
  | [d] => { results := [.lit (.bool false)], args := [d] }
  | _ => none }
def ClockRisesWrongFalsely : Prop := clockRisesRow.holds Try.pinned (OpenSpec.ofChange clockRisesWrong)

/-- 'osierlaw05.ClockPlays': WHATEVER THE INPUT: true; the input reads as it did. -/
def clockPlaysSpec : ChangeSpec := { name := "clockPlays", fn := fun _ => fun
  | [d1, d2, d3, d4] => { results := [.lit (.bool true)], args := [d1, d2, d3, d4] }
  | _ => none }
def clockPlaysRow : OpenClaim := { program := "ytgglckagenapgaa", sum := "a0d2b3db0110dcbea8f5a79185494a8e21ff255fce58bff898b232bc5bb73103", func := "osier/osierlaw05.ClockPlays", spec := "clockPlays", apart := false }
def ClockPlaysSaid : Prop := clockPlaysRow.holds Try.pinned (OpenSpec.ofChange clockPlaysSpec)

/-- ITS FALSE NEIGHBOUR: 'it returns false'. Refute it at one input. -/
def clockPlaysWrong : ChangeSpec := { name := "clockPlays", fn := fun _ => fun
  | [d1, d2, d3, d4] => { results := [.lit (.bool false)], args := [d1, d2, d3, d4] }
  | _ => none }
def ClockPlaysWrongFalsely : Prop := clockPlaysRow.holds Try.pinned (OpenSpec.ofChange clockPlaysWrong)

/-- 'osierlaw05.ClockNone': WHATEVER THE INPUT: true; the input reads as it did. -/
def clockNoneSpec : ChangeSpec := { name := "clockNone", fn := fun _ => fun
  | [d] => { results := [.lit (.bool true)], args := [d] }
  | _ => none }
def clockNoneRow : OpenClaim := { program := "ytgglckagenapgaa", sum := "a0d2b3db0110dcbea8f5a79185494a8e21ff255fce58bff898b232bc5bb73103", func := "osier/osierlaw05.ClockNone", spec := "clockNone", apart := false }
def ClockNoneSaid : Prop := clockNoneRow.holds Try.pinned (OpenSpec.ofChange clockNoneSpec)

/-- ITS FALSE NEIGHBOUR: 'it returns false'. Refute it at one input. -/
def clockNoneWrong : ChangeSpec := { name := "clockNone", fn := fun _ => fun
  | [d] => { results := [.lit (.bool false)], args := [d] }
  | _ => none }
def ClockNoneWrongFalsely : Prop := clockNoneRow.holds Try.pinned (OpenSpec.ofChange clockNoneWrong)

/- THE SECOND FORM. 'bulk': how many values and letters a reading holds, each counted each time it is reached (what is shared counts as often as it is met; a slice's spare places count too). A statement '..UptoSaid' is the law's where the arguments, and the package variables that the reading takes, are together of bulk at most 1048576: NARROWER than '..Said'. Prove '..Said' where nothing that the law and all that it calls make is longer than what came in: it says more and counts as full. Else prove '..UptoSaid'. A law counts once. -/
mutual
def uptoBulk {H : Type} : DataW H → Nat
  | .lit (.string bytes) => bytes.length + 1
  | .lit _ => 1
  | .nil => 1
  | .ptr d => uptoBulk d + 1
  | .slice elems spare => uptoBulkAll elems + uptoBulkAll spare + 1
  | .agg parts => uptoBulkAll parts + 1
  | .iface _ d => uptoBulk d + 1
  | .map entries => uptoBulkEntries entries + 1
  | .held _ => 1
def uptoBulkAll {H : Type} : List (DataW H) → Nat
  | [] => 0
  | d :: r => uptoBulk d + uptoBulkAll r
def uptoBulkEntries {H : Type} : List (Lit × DataW H) → Nat
  | [] => 0
  | x :: r => uptoBulkEntry x + uptoBulkEntries r
def uptoBulkEntry {H : Type} : Lit × DataW H → Nat
  | (.string bytes, d) => bytes.length + uptoBulk d + 1
  | (_, d) => uptoBulk d + 1
 end
def uptoSmall : (H : Type) → List (DataW H) → Bool := fun _ ds => decide (uptoBulkAll ds ≤ 1048576)
def OpenSpec.upto (s : _root_.Go.ChangeSpec) : _root_.Go.OpenSpec := { _root_.Go.OpenSpec.ofChange s with cond := some uptoSmall }

/-- 'osierlaw05.ClockActors', WHERE WHAT IT READS IS OF BULK AT MOST 1048576: true; the input reads as it did. -/
def clockActorsUptoRow : OpenClaim := { program := "ytgglckagenapgaa", sum := "a0d2b3db0110dcbea8f5a79185494a8e21ff255fce58bff898b232bc5bb73103", func := "osier/osierlaw05.ClockActors", spec := "clockActors", apart := false, narrowed := true }
def ClockActorsUptoSaid : Prop := clockActorsUptoRow.holds Try.pinned (OpenSpec.upto clockActorsSpec)

/-- 'osierlaw05.ClockPairs', WHERE WHAT IT READS IS OF BULK AT MOST 1048576: true; the input reads as it did. -/
def clockPairsUptoRow : OpenClaim := { program := "ytgglckagenapgaa", sum := "a0d2b3db0110dcbea8f5a79185494a8e21ff255fce58bff898b232bc5bb73103", func := "osier/osierlaw05.ClockPairs", spec := "clockPairs", apart := false, narrowed := true }
def ClockPairsUptoSaid : Prop := clockPairsUptoRow.holds Try.pinned (OpenSpec.upto clockPairsSpec)

/-- 'osierlaw05.ClockRises', WHERE WHAT IT READS IS OF BULK AT MOST 1048576: true; the input reads as it did. -/
def clockRisesUptoRow : OpenClaim := { program := "ytgglckagenapgaa", sum := "a0d2b3db0110dcbea8f5a79185494a8e21ff255fce58bff898b232bc5bb73103", func := "osier/osierlaw05.ClockRises", spec := "clockRises", apart := false, narrowed := true }
def ClockRisesUptoSaid : Prop := clockRisesUptoRow.holds Try.pinned (OpenSpec.upto clockRisesSpec)

/-- 'osierlaw05.ClockPlays', WHERE WHAT IT READS IS OF BULK AT MOST 1048576: true; the input reads as it did. -/
def clockPlaysUptoRow : OpenClaim := { program := "ytgglckagenapgaa", sum := "a0d2b3db0110dcbea8f5a79185494a8e21ff255fce58bff898b232bc5bb73103", func := "osier/osierlaw05.ClockPlays", spec := "clockPlays", apart := false, narrowed := true }
def ClockPlaysUptoSaid : Prop := clockPlaysUptoRow.holds Try.pinned (OpenSpec.upto clockPlaysSpec)

/-- 'osierlaw05.ClockNone', WHERE WHAT IT READS IS OF BULK AT MOST 1048576: true; the input reads as it did. -/
def clockNoneUptoRow : OpenClaim := { program := "ytgglckagenapgaa", sum := "a0d2b3db0110dcbea8f5a79185494a8e21ff255fce58bff898b232bc5bb73103", func := "osier/osierlaw05.ClockNone", spec := "clockNone", apart := false, narrowed := true }
def ClockNoneUptoSaid : Prop := clockNoneUptoRow.holds Try.pinned (OpenSpec.upto clockNoneSpec)

end Rows
end Go.Proofs.Ytgglckagenapgaa
