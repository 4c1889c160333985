/-
  No cell of these rows narrows 'for every input' (looked for: loops, veiled, ifaces, maps, wideKeys, modest, calm, conditions, laid).
  DERIVED. THE GIVEN ROWS OF THIS SEAT. 7 by the template 'for every input the law returns true; each argument reads behind the call as it read before'; 0 by the template 'total and deterministic' (their statements: YtihioccpnadieaaTotals.lean).
  GIVEN WITH THE SEED: the statements are not yours to turn. If you find one false, say at which input.
  Laid BY PROGRAM, IN A SANDBOX (cutbox-rows.mjs): the forced cells as the released guide's own fill.sh prints them over the translation 9152f15c1ca8e254… (all of the seat's roots in one cut). By AI agents, Wed Nov 11 2026. No macro, syntax, notation, axiom, sorry.
-/
import Derived.Test.YtihioccpnadieaaChecked
import GoSem.Claim
import GoSem.ClaimJoined
import GoSem.ClaimMapViews
import Derived.JoinedTies
import Derived.KernelRfl
namespace Go.Proofs.Ytihioccpnadieaa
/- THE CELL 'sum', in the pinned program and in every row, IS THE sha256 OF THE DUMP (.gsa) THAT YtihioccpnadieaaProg.lean LOADS. Nothing in Lean hashes anything: it is a label: what it is worth is what the hold of that sum in a sandbox is worth. -/
noncomputable def Try.pinned : Pinned := { name := "ytihioccpnadieaa", sum := "9152f15c1ca8e254d136409a83440bcadf62afdb7f47ddfce0d03ed80d6c1c60", checked := Try.checked }
namespace Rows
def none {H : Type} : Left H := { results := [], args := [] }

/-- 'osierlaw02.FrameSums': WHATEVER THE INPUT: true; the input reads as it did. -/
def frameSumsSpec : ChangeSpec := { name := "frameSums", fn := fun _ => fun
  | [d] => { results := [.lit (.bool true)], args := [d] }
  | _ => none }
def frameSumsRow : OpenClaim := { program := "ytihioccpnadieaa", sum := "9152f15c1ca8e254d136409a83440bcadf62afdb7f47ddfce0d03ed80d6c1c60", func := "osier/osierlaw02.FrameSums", spec := "frameSums", unfollowed := true, recurses := true, apart := false }
def FrameSumsSaid : Prop := frameSumsRow.holds Try.pinned (OpenSpec.ofChange frameSumsSpec)

/-- ITS FALSE NEIGHBOUR: 'it returns false'. Refute it at one input. -/
def frameSumsWrong : ChangeSpec := { name := "frameSums", fn := fun _ => fun
  | [d] => { results := [.lit (.bool false)], args := [d] }
  | _ => none }
def FrameSumsWrongFalsely : Prop := frameSumsRow.holds Try.pinned (OpenSpec.ofChange frameSumsWrong)

/-- 'osierlaw02.FrameMakes': WHATEVER THE INPUT: true; the input reads as it did. -/
def frameMakesSpec : ChangeSpec := { name := "frameMakes", fn := fun _ => fun
  | [d] => { results := [.lit (.bool true)], args := [d] }
  | _ => none }
def frameMakesRow : OpenClaim := { program := "ytihioccpnadieaa", sum := "9152f15c1ca8e254d136409a83440bcadf62afdb7f47ddfce0d03ed80d6c1c60", func := "osier/osierlaw02.FrameMakes", spec := "frameMakes", unfollowed := true, recurses := true, apart := false }
def FrameMakesSaid : Prop := frameMakesRow.holds Try.pinned (OpenSpec.ofChange frameMakesSpec)

/-- ITS FALSE NEIGHBOUR: 'it returns false'. Refute it at one input. -/
def frameMakesWrong : ChangeSpec := { name := "frameMakes", fn := fun _ => fun
  | [d] => { results := [.lit (.bool false)], args := [d] }
  | _ => none }
def FrameMakesWrongFalsely : Prop := frameMakesRow.holds Try.pinned (OpenSpec.ofChange frameMakesWrong)

/-- 'osierlaw02.FrameReads': WHATEVER THE INPUT: true; the input reads as it did. -/
def frameReadsSpec : ChangeSpec := { name := "frameReads", fn := fun _ => fun
  | [d] => { results := [.lit (.bool true)], args := [d] }
  | _ => none }
def frameReadsRow : OpenClaim := { program := "ytihioccpnadieaa", sum := "9152f15c1ca8e254d136409a83440bcadf62afdb7f47ddfce0d03ed80d6c1c60", func := "osier/osierlaw02.FrameReads", spec := "frameReads", unfollowed := true, recurses := true, apart := false }
def FrameReadsSaid : Prop := frameReadsRow.holds Try.pinned (OpenSpec.ofChange frameReadsSpec)

/-- ITS FALSE NEIGHBOUR: 'it returns false'. Refute it at one input. -/
def frameReadsWrong : ChangeSpec := { name := "frameReads", fn := fun _ => fun
  | [d] => { results := [.lit (.bool false)], args := [d] }
  | _ => none }
def FrameReadsWrongFalsely : Prop := frameReadsRow.holds Try.pinned (OpenSpec.ofChange frameReadsWrong)

/-- 'osierlaw02.FrameBack': WHATEVER THE INPUT: true; the input reads as it did. -/
def frameBackSpec : ChangeSpec := { name := "frameBack", fn := fun _ => fun
  | [d1, d2] => { results := [.lit (.bool true)], args := [d1, d2] }
  | _ => none }
def frameBackRow : OpenClaim := { program := "ytihioccpnadieaa", sum := "9152f15c1ca8e254d136409a83440bcadf62afdb7f47ddfce0d03ed80d6c1c60", func := "osier/osierlaw02.FrameBack", spec := "frameBack", unfollowed := true, recurses := true, apart := false }
def FrameBackSaid : Prop := frameBackRow.holds Try.pinned (OpenSpec.ofChange frameBackSpec)

/-- ITS FALSE NEIGHBOUR: 'it returns false'. Refute it at one input. -/
def frameBackWrong : ChangeSpec := { name := "frameBack", fn := fun _ => fun
  | [d1, d2] => { results := [.lit (.bool false)], args := [d1, d2] }
  | _ => none }
def FrameBackWrongFalsely : Prop := frameBackRow.holds Try.pinned (OpenSpec.ofChange frameBackWrong)

/-- 'osierlaw02.FrameTurned': WHATEVER THE INPUT: true; the input reads as it did. -/
def frameTurnedSpec : ChangeSpec := { name := "frameTurned", fn := fun _ => fun
  | [d1, d2, d3, d4] => { results := [.lit (.bool true)], args := [d1, d2, d3, d4] }
  | _ => none }
def frameTurnedRow : OpenClaim := { program := "ytihioccpnadieaa", sum := "9152f15c1ca8e254d136409a83440bcadf62afdb7f47ddfce0d03ed80d6c1c60", func := "osier/osierlaw02.FrameTurned", spec := "frameTurned", unfollowed := true, recurses := true, apart := false }
def FrameTurnedSaid : Prop := frameTurnedRow.holds Try.pinned (OpenSpec.ofChange frameTurnedSpec)

/-- ITS FALSE NEIGHBOUR: 'it returns false'. Refute it at one input. -/
def frameTurnedWrong : ChangeSpec := { name := "frameTurned", fn := fun _ => fun
  | [d1, d2, d3, d4] => { results := [.lit (.bool false)], args := [d1, d2, d3, d4] }
  | _ => none }
def FrameTurnedWrongFalsely : Prop := frameTurnedRow.holds Try.pinned (OpenSpec.ofChange frameTurnedWrong)

/-- 'osierlaw02.FrameBounds': WHATEVER THE INPUT: true; the input reads as it did. -/
def frameBoundsSpec : ChangeSpec := { name := "frameBounds", fn := fun _ => fun
  | [d1, d2] => { results := [.lit (.bool true)], args := [d1, d2] }
  | _ => none }
def frameBoundsRow : OpenClaim := { program := "ytihioccpnadieaa", sum := "9152f15c1ca8e254d136409a83440bcadf62afdb7f47ddfce0d03ed80d6c1c60", func := "osier/osierlaw02.FrameBounds", spec := "frameBounds", unfollowed := true, recurses := true, apart := false }
def FrameBoundsSaid : Prop := frameBoundsRow.holds Try.pinned (OpenSpec.ofChange frameBoundsSpec)

/-- ITS FALSE NEIGHBOUR: 'it returns false'. Refute it at one input. -/
def frameBoundsWrong : ChangeSpec := { name := "frameBounds", fn := fun _ => fun
  | [d1, d2] => { results := [.lit (.bool false)], args := [d1, d2] }
  | _ => none }
def FrameBoundsWrongFalsely : Prop := frameBoundsRow.holds Try.pinned (OpenSpec.ofChange frameBoundsWrong)

/-- 'osierlaw02.FrameMany': WHATEVER THE INPUT: true; the input reads as it did. -/
def frameManySpec : ChangeSpec := { name := "frameMany", fn := fun _ => fun
  | [d] => { results := [.lit (.bool true)], args := [d] }
  | _ => none }
def frameManyRow : OpenClaim := { program := "ytihioccpnadieaa", sum := "9152f15c1ca8e254d136409a83440bcadf62afdb7f47ddfce0d03ed80d6c1c60", func := "osier/osierlaw02.FrameMany", spec := "frameMany", unfollowed := true, recurses := true, apart := false }
def FrameManySaid : Prop := frameManyRow.holds Try.pinned (OpenSpec.ofChange frameManySpec)

/-- ITS FALSE NEIGHBOUR: 'it returns false'. Refute it at one input. -/
def frameManyWrong : ChangeSpec := { name := "frameMany", fn := fun _ => fun
  | [d] => { results := [.lit (.bool false)], args := [d] }
  | _ => none }
def FrameManyWrongFalsely : Prop := frameManyRow.holds Try.pinned (OpenSpec.ofChange frameManyWrong)

/- THE SECOND FORM. 'bulk': how many values and letters a reading holds, each counted each time it is reached (what is shared counts as often as it is met; a slice's spare places count too). A statement '..UptoSaid' is the law's where the arguments, and the package variables that the reading takes, are together of bulk at most 1048576: NARROWER than '..Said'. Prove '..Said' where nothing that the law and all that it calls make is longer than what came in: it says more and counts as full. Else prove '..UptoSaid'. A law counts once. -/
mutual
def uptoBulk {H : Type} : DataW H → Nat
  | .lit (.string bytes) => bytes.length + 1
  | .lit _ => 1
  | .nil => 1
  | .ptr d => uptoBulk d + 1
  | .slice elems spare => uptoBulkAll elems + uptoBulkAll spare + 1
  | .agg parts => uptoBulkAll parts + 1
  | .iface _ d => uptoBulk d + 1
  | .map entries => uptoBulkEntries entries + 1
  | .held _ => 1
def uptoBulkAll {H : Type} : List (DataW H) → Nat
  | [] => 0
  | d :: r => uptoBulk d + uptoBulkAll r
def uptoBulkEntries {H : Type} : List (Lit × DataW H) → Nat
  | [] => 0
  | x :: r => uptoBulkEntry x + uptoBulkEntries r
def uptoBulkEntry {H : Type} : Lit × DataW H → Nat
  | (.string bytes, d) => bytes.length + uptoBulk d + 1
  | (_, d) => uptoBulk d + 1
 end
def uptoSmall : (H : Type) → List (DataW H) → Bool := fun _ ds => decide (uptoBulkAll ds ≤ 1048576)
def OpenSpec.upto (s : _root_.Go.ChangeSpec) : _root_.Go.OpenSpec := { _root_.Go.OpenSpec.ofChange s with cond := some uptoSmall }

/-- 'osierlaw02.FrameSums', WHERE WHAT IT READS IS OF BULK AT MOST 1048576: true; the input reads as it did. -/
def frameSumsUptoRow : OpenClaim := { program := "ytihioccpnadieaa", sum := "9152f15c1ca8e254d136409a83440bcadf62afdb7f47ddfce0d03ed80d6c1c60", func := "osier/osierlaw02.FrameSums", spec := "frameSums", unfollowed := true, recurses := true, apart := false, narrowed := true }
def FrameSumsUptoSaid : Prop := frameSumsUptoRow.holds Try.pinned (OpenSpec.upto frameSumsSpec)

/-- 'osierlaw02.FrameMakes', WHERE WHAT IT READS IS OF BULK AT MOST 1048576: true; the input reads as it did. -/
def frameMakesUptoRow : OpenClaim := { program := "ytihioccpnadieaa", sum := "9152f15c1ca8e254d136409a83440bcadf62afdb7f47ddfce0d03ed80d6c1c60", func := "osier/osierlaw02.FrameMakes", spec := "frameMakes", unfollowed := true, recurses := true, apart := false, narrowed := true }
def FrameMakesUptoSaid : Prop := frameMakesUptoRow.holds Try.pinned (OpenSpec.upto frameMakesSpec)

/-- 'osierlaw02.FrameReads', WHERE WHAT IT READS IS OF BULK AT MOST 1048576: true; the input reads as it did. -/
def frameReadsUptoRow : OpenClaim := { program := "ytihioccpnadieaa", sum := "9152f15c1ca8e254d136409a83440bcadf62afdb7f47ddfce0d03ed80d6c1c60", func := "osier/osierlaw02.FrameReads", spec := "frameReads", unfollowed := true, recurses := true, apart := false, narrowed := true }
def FrameReadsUptoSaid : Prop := frameReadsUptoRow.holds Try.pinned (OpenSpec.upto frameReadsSpec)

/-- 'osierlaw02.FrameBack', WHERE WHAT IT READS IS OF BULK AT MOST 1048576: true; the input reads as it did. -/
def frameBackUptoRow : OpenClaim := { program := "ytihioccpnadieaa", sum := "9152f15c1ca8e254d136409a83440bcadf62afdb7f47ddfce0d03ed80d6c1c60", func := "osier/osierlaw02.FrameBack", spec := "frameBack", unfollowed := true, recurses := true, apart := false, narrowed := true }
def FrameBackUptoSaid : Prop := frameBackUptoRow.holds Try.pinned (OpenSpec.upto frameBackSpec)

/-- 'osierlaw02.FrameTurned', WHERE WHAT IT READS IS OF BULK AT MOST 1048576: true; the input reads as it did. -/
def frameTurnedUptoRow : OpenClaim := { program := "ytihioccpnadieaa", sum := "9152f15c1ca8e254d136409a83440bcadf62afdb7f47ddfce0d03ed80d6c1c60", func := "osier/osierlaw02.FrameTurned", spec := "frameTurned", unfollowed := true, recurses := true, apart := false, narrowed := true }
def FrameTurnedUptoSaid : Prop := frameTurnedUptoRow.holds Try.pinned (OpenSpec.upto frameTurnedSpec)

/-- 'osierlaw02.FrameBounds', WHERE WHAT IT READS IS OF BULK AT MOST 1048576: true; the input reads as it did. -/
def frameBoundsUptoRow : OpenClaim := { program := "ytihioccpnadieaa", sum := "9152f15c1ca8e254d136409a83440bcadf62afdb7f47ddfce0d03ed80d6c1c60", func := "osier/osierlaw02.FrameBounds", spec := "frameBounds", unfollowed := true, recurses := true, apart := false, narrowed := true }
def FrameBoundsUptoSaid : Prop := frameBoundsUptoRow.holds Try.pinned (OpenSpec.upto frameBoundsSpec)

/-- 'osierlaw02.FrameMany', WHERE WHAT IT READS IS OF BULK AT MOST 1048576: true; the input reads as it did. -/
def frameManyUptoRow : OpenClaim := { program := "ytihioccpnadieaa", sum := "9152f15c1ca8e254d136409a83440bcadf62afdb7f47ddfce0d03ed80d6c1c60", func := "osier/osierlaw02.FrameMany", spec := "frameMany", unfollowed := true, recurses := true, apart := false, narrowed := true }
def FrameManyUptoSaid : Prop := frameManyUptoRow.holds Try.pinned (OpenSpec.upto frameManySpec)

end Rows
end Go.Proofs.Ytihioccpnadieaa
