/-
  No cell of these rows narrows 'for every input' (looked for: loops, veiled, ifaces, maps, wideKeys, modest, calm, conditions, laid).
  DERIVED. THE GIVEN ROWS OF THIS SEAT. 7 by the template 'for every input the law returns true; each argument reads behind the call as it read before'; 0 by the template 'total and deterministic' (their statements: YtdbebophchggfaaTotals.lean).
  GIVEN WITH THE SEED: the statements are not yours to turn. If you find one false, say at which input.
  Laid BY PROGRAM, IN A SANDBOX (cutbox-rows.mjs): the forced cells as the released guide's own fill.sh prints them over the translation 4120c9c3f4984bd6… (all of the seat's roots in one cut). By AI agents, Wed Nov 11 2026. No macro, syntax, notation, axiom, sorry.
-/
import Derived.Test.YtdbebophchggfaaChecked
import GoSem.Claim
import GoSem.ClaimJoined
import GoSem.ClaimMapViews
import Derived.JoinedTies
import Derived.KernelRfl
namespace Go.Proofs.Ytdbebophchggfaa
/- THE CELL 'sum', in the pinned program and in every row, IS THE sha256 OF THE DUMP (.gsa) THAT YtdbebophchggfaaProg.lean LOADS. Nothing in Lean hashes anything: it is a label: what it is worth is what the hold of that sum in a sandbox is worth. -/
noncomputable def Try.pinned : Pinned := { name := "ytdbebophchggfaa", sum := "4120c9c3f4984bd6e26dcc562e803bbd313bafdde0c065b6f8b9f09926b25864", checked := Try.checked }
namespace Rows
def none {H : Type} : Left H := { results := [], args := [] }

/-- 'drayagelaw06.EpochsTells': WHATEVER THE INPUT: true; the input reads as it did. -/
def epochsTellsSpec : ChangeSpec := { name := "epochsTells", fn := fun _ => fun
  | [d1, d2, d3] => { results := [.lit (.bool true)], args := [d1, d2, d3] }
  | _ => none }
def epochsTellsRow : OpenClaim := { program := "ytdbebophchggfaa", sum := "4120c9c3f4984bd6e26dcc562e803bbd313bafdde0c065b6f8b9f09926b25864", func := "drayage/drayagelaw06.EpochsTells", spec := "epochsTells", unfollowed := true, recurses := true, apart := false }
def EpochsTellsSaid : Prop := epochsTellsRow.holds Try.pinned (OpenSpec.ofChange epochsTellsSpec)

/-- ITS FALSE NEIGHBOUR: 'it returns false'. Refute it at one input. -/
def epochsTellsWrong : ChangeSpec := { name := "epochsTells", fn := fun _ => fun
  | [d1, d2, d3] => { results := [.lit (.bool false)], args := [d1, d2, d3] }
  | _ => none }
def EpochsTellsWrongFalsely : Prop := epochsTellsRow.holds Try.pinned (OpenSpec.ofChange epochsTellsWrong)

/-- 'drayagelaw06.EpochsForks': WHATEVER THE INPUT: true; the input reads as it did. -/
def epochsForksSpec : ChangeSpec := { name := "epochsForks", fn := fun _ => fun
  | [d1, d2, d3, d4] => { results := [.lit (.bool true)], args := [d1, d2, d3, d4] }
  | _ => none }
def epochsForksRow : OpenClaim := { program := "ytdbebophchggfaa", sum := "4120c9c3f4984bd6e26dcc562e803bbd313bafdde0c065b6f8b9f09926b25864", func := "drayage/drayagelaw06.EpochsForks", spec := "epochsForks", unfollowed := true, recurses := true, apart := false }
def EpochsForksSaid : Prop := epochsForksRow.holds Try.pinned (OpenSpec.ofChange epochsForksSpec)

/-- ITS FALSE NEIGHBOUR: 'it returns false'. Refute it at one input. -/
def epochsForksWrong : ChangeSpec := { name := "epochsForks", fn := fun _ => fun
  | [d1, d2, d3, d4] => { results := [.lit (.bool false)], args := [d1, d2, d3, d4] }
  | _ => none }
def EpochsForksWrongFalsely : Prop := epochsForksRow.holds Try.pinned (OpenSpec.ofChange epochsForksWrong)

/-- 'drayagelaw06.EpochsEnds': WHATEVER THE INPUT: true; the input reads as it did. -/
def epochsEndsSpec : ChangeSpec := { name := "epochsEnds", fn := fun _ => fun
  | [d1, d2, d3] => { results := [.lit (.bool true)], args := [d1, d2, d3] }
  | _ => none }
def epochsEndsRow : OpenClaim := { program := "ytdbebophchggfaa", sum := "4120c9c3f4984bd6e26dcc562e803bbd313bafdde0c065b6f8b9f09926b25864", func := "drayage/drayagelaw06.EpochsEnds", spec := "epochsEnds", unfollowed := true, recurses := true, apart := false }
def EpochsEndsSaid : Prop := epochsEndsRow.holds Try.pinned (OpenSpec.ofChange epochsEndsSpec)

/-- ITS FALSE NEIGHBOUR: 'it returns false'. Refute it at one input. -/
def epochsEndsWrong : ChangeSpec := { name := "epochsEnds", fn := fun _ => fun
  | [d1, d2, d3] => { results := [.lit (.bool false)], args := [d1, d2, d3] }
  | _ => none }
def EpochsEndsWrongFalsely : Prop := epochsEndsRow.holds Try.pinned (OpenSpec.ofChange epochsEndsWrong)

/-- 'drayagelaw06.EpochsParts': WHATEVER THE INPUT: true; the input reads as it did. -/
def epochsPartsSpec : ChangeSpec := { name := "epochsParts", fn := fun _ => fun
  | [d1, d2, d3, d4, d5] => { results := [.lit (.bool true)], args := [d1, d2, d3, d4, d5] }
  | _ => none }
def epochsPartsRow : OpenClaim := { program := "ytdbebophchggfaa", sum := "4120c9c3f4984bd6e26dcc562e803bbd313bafdde0c065b6f8b9f09926b25864", func := "drayage/drayagelaw06.EpochsParts", spec := "epochsParts", unfollowed := true, recurses := true, apart := false }
def EpochsPartsSaid : Prop := epochsPartsRow.holds Try.pinned (OpenSpec.ofChange epochsPartsSpec)

/-- ITS FALSE NEIGHBOUR: 'it returns false'. Refute it at one input. -/
def epochsPartsWrong : ChangeSpec := { name := "epochsParts", fn := fun _ => fun
  | [d1, d2, d3, d4, d5] => { results := [.lit (.bool false)], args := [d1, d2, d3, d4, d5] }
  | _ => none }
def EpochsPartsWrongFalsely : Prop := epochsPartsRow.holds Try.pinned (OpenSpec.ofChange epochsPartsWrong)

/-- 'drayagelaw06.EpochsMeets': WHATEVER THE INPUT: true; the input reads as it did. -/
def epochsMeetsSpec : ChangeSpec := { name := "epochsMeets", fn := fun _ => fun
  | [d1, d2, d3, d4] => { results := [.lit (.bool true)], args := [d1, d2, d3, d4] }
  | _ => none }
def epochsMeetsRow : OpenClaim := { program := "ytdbebophchggfaa", sum := "4120c9c3f4984bd6e26dcc562e803bbd313bafdde0c065b6f8b9f09926b25864", func := "drayage/drayagelaw06.EpochsMeets", spec := "epochsMeets", unfollowed := true, recurses := true, apart := false }
def EpochsMeetsSaid : Prop := epochsMeetsRow.holds Try.pinned (OpenSpec.ofChange epochsMeetsSpec)

/-- ITS FALSE NEIGHBOUR: 'it returns false'. Refute it at one input. -/
def epochsMeetsWrong : ChangeSpec := { name := "epochsMeets", fn := fun _ => fun
  | [d1, d2, d3, d4] => { results := [.lit (.bool false)], args := [d1, d2, d3, d4] }
  | _ => none }
def EpochsMeetsWrongFalsely : Prop := epochsMeetsRow.holds Try.pinned (OpenSpec.ofChange epochsMeetsWrong)

/-- 'drayagelaw06.EpochsCuts': WHATEVER THE INPUT: true; the input reads as it did. -/
def epochsCutsSpec : ChangeSpec := { name := "epochsCuts", fn := fun _ => fun
  | [d1, d2, d3] => { results := [.lit (.bool true)], args := [d1, d2, d3] }
  | _ => none }
def epochsCutsRow : OpenClaim := { program := "ytdbebophchggfaa", sum := "4120c9c3f4984bd6e26dcc562e803bbd313bafdde0c065b6f8b9f09926b25864", func := "drayage/drayagelaw06.EpochsCuts", spec := "epochsCuts", unfollowed := true, recurses := true, apart := false }
def EpochsCutsSaid : Prop := epochsCutsRow.holds Try.pinned (OpenSpec.ofChange epochsCutsSpec)

/-- ITS FALSE NEIGHBOUR: 'it returns false'. Refute it at one input. -/
def epochsCutsWrong : ChangeSpec := { name := "epochsCuts", fn := fun _ => fun
  | [d1, d2, d3] => { results := [.lit (.bool false)], args := [d1, d2, d3] }
  | _ => none }
def EpochsCutsWrongFalsely : Prop := epochsCutsRow.holds Try.pinned (OpenSpec.ofChange epochsCutsWrong)

/-- 'drayagelaw06.EpochsAdds': WHATEVER THE INPUT: true; the input reads as it did. -/
def epochsAddsSpec : ChangeSpec := { name := "epochsAdds", fn := fun _ => fun
  | [d1, d2] => { results := [.lit (.bool true)], args := [d1, d2] }
  | _ => none }
def epochsAddsRow : OpenClaim := { program := "ytdbebophchggfaa", sum := "4120c9c3f4984bd6e26dcc562e803bbd313bafdde0c065b6f8b9f09926b25864", func := "drayage/drayagelaw06.EpochsAdds", spec := "epochsAdds", unfollowed := true, recurses := true, apart := false }
def EpochsAddsSaid : Prop := epochsAddsRow.holds Try.pinned (OpenSpec.ofChange epochsAddsSpec)

/-- ITS FALSE NEIGHBOUR: 'it returns false'. Refute it at one input. -/
def epochsAddsWrong : ChangeSpec := { name := "epochsAdds", fn := fun _ => fun
  | [d1, d2] => { results := [.lit (.bool false)], args := [d1, d2] }
  | _ => none }
def EpochsAddsWrongFalsely : Prop := epochsAddsRow.holds Try.pinned (OpenSpec.ofChange epochsAddsWrong)

/- THE SECOND FORM. 'bulk': how many values and letters a reading holds, each counted each time it is reached (what is shared counts as often as it is met; a slice's spare places count too). A statement '..UptoSaid' is the law's where the arguments, and the package variables that the reading takes, are together of bulk at most 1048576: NARROWER than '..Said'. Prove '..Said' where nothing that the law and all that it calls make is longer than what came in: it says more and counts as full. Else prove '..UptoSaid'. A law counts once. -/
mutual
def uptoBulk {H : Type} : DataW H → Nat
  | .lit (.string bytes) => bytes.length + 1
  | .lit _ => 1
  | .nil => 1
  | .ptr d => uptoBulk d + 1
  | .slice elems spare => uptoBulkAll elems + uptoBulkAll spare + 1
  | .agg parts => uptoBulkAll parts + 1
  | .iface _ d => uptoBulk d + 1
  | .map entries => uptoBulkEntries entries + 1
  | .held _ => 1
def uptoBulkAll {H : Type} : List (DataW H) → Nat
  | [] => 0
  | d :: r => uptoBulk d + uptoBulkAll r
def uptoBulkEntries {H : Type} : List (Lit × DataW H) → Nat
  | [] => 0
  | x :: r => uptoBulkEntry x + uptoBulkEntries r
def uptoBulkEntry {H : Type} : Lit × DataW H → Nat
  | (.string bytes, d) => bytes.length + uptoBulk d + 1
  | (_, d) => uptoBulk d + 1
 end
def uptoSmall : (H : Type) → List (DataW H) → Bool := fun _ ds => decide (uptoBulkAll ds ≤ 1048576)
def OpenSpec.upto (s : _root_.Go.ChangeSpec) : _root_.Go.OpenSpec := { _root_.Go.OpenSpec.ofChange s with cond := some uptoSmall }

/-- 'drayagelaw06.EpochsTells', WHERE WHAT IT READS IS OF BULK AT MOST 1048576: true; the input reads as it did. -/
def epochsTellsUptoRow : OpenClaim := { program := "ytdbebophchggfaa", sum := "4120c9c3f4984bd6e26dcc562e803bbd313bafdde0c065b6f8b9f09926b25864", func := "drayage/drayagelaw06.EpochsTells", spec := "epochsTells", unfollowed := true, recurses := true, apart := false, narrowed := true }
def EpochsTellsUptoSaid : Prop := epochsTellsUptoRow.holds Try.pinned (OpenSpec.upto epochsTellsSpec)

/-- 'drayagelaw06.EpochsForks', WHERE WHAT IT READS IS OF BULK AT MOST 1048576: true; the input reads as it did. -/
def epochsForksUptoRow : OpenClaim := { program := "ytdbebophchggfaa", sum := "4120c9c3f4984bd6e26dcc562e803bbd313bafdde0c065b6f8b9f09926b25864", func := "drayage/drayagelaw06.EpochsForks", spec := "epochsForks", unfollowed := true, recurses := true, apart := false, narrowed := true }
def EpochsForksUptoSaid : Prop := epochsForksUptoRow.holds Try.pinned (OpenSpec.upto epochsForksSpec)

/-- 'drayagelaw06.EpochsEnds', WHERE WHAT IT READS IS OF BULK AT MOST 1048576: true; the input reads as it did. -/
def epochsEndsUptoRow : OpenClaim := { program := "ytdbebophchggfaa", sum := "4120c9c3f4984bd6e26dcc562e803bbd313bafdde0c065b6f8b9f09926b25864", func := "drayage/drayagelaw06.EpochsEnds", spec := "epochsEnds", unfollowed := true, recurses := true, apart := false, narrowed := true }
def EpochsEndsUptoSaid : Prop := epochsEndsUptoRow.holds Try.pinned (OpenSpec.upto epochsEndsSpec)

/-- 'drayagelaw06.EpochsParts', WHERE WHAT IT READS IS OF BULK AT MOST 1048576: true; the input reads as it did. -/
def epochsPartsUptoRow : OpenClaim := { program := "ytdbebophchggfaa", sum := "4120c9c3f4984bd6e26dcc562e803bbd313bafdde0c065b6f8b9f09926b25864", func := "drayage/drayagelaw06.EpochsParts", spec := "epochsParts", unfollowed := true, recurses := true, apart := false, narrowed := true }
def EpochsPartsUptoSaid : Prop := epochsPartsUptoRow.holds Try.pinned (OpenSpec.upto epochsPartsSpec)

/-- 'drayagelaw06.EpochsMeets', WHERE WHAT IT READS IS OF BULK AT MOST 1048576: true; the input reads as it did. -/
def epochsMeetsUptoRow : OpenClaim := { program := "ytdbebophchggfaa", sum := "4120c9c3f4984bd6e26dcc562e803bbd313bafdde0c065b6f8b9f09926b25864", func := "drayage/drayagelaw06.EpochsMeets", spec := "epochsMeets", unfollowed := true, recurses := true, apart := false, narrowed := true }
def EpochsMeetsUptoSaid : Prop := epochsMeetsUptoRow.holds Try.pinned (OpenSpec.upto epochsMeetsSpec)

/-- 'drayagelaw06.EpochsCuts', WHERE WHAT IT READS IS OF BULK AT MOST 1048576: true; the input reads as it did. -/
def epochsCutsUptoRow : OpenClaim := { program := "ytdbebophchggfaa", sum := "4120c9c3f4984bd6e26dcc562e803bbd313bafdde0c065b6f8b9f09926b25864", func := "drayage/drayagelaw06.EpochsCuts", spec := "epochsCuts", unfollowed := true, recurses := true, apart := false, narrowed := true }
def EpochsCutsUptoSaid : Prop := epochsCutsUptoRow.holds Try.pinned (OpenSpec.upto epochsCutsSpec)

/-- 'drayagelaw06.EpochsAdds', WHERE WHAT IT READS IS OF BULK AT MOST 1048576: true; the input reads as it did. -/
def epochsAddsUptoRow : OpenClaim := { program := "ytdbebophchggfaa", sum := "4120c9c3f4984bd6e26dcc562e803bbd313bafdde0c065b6f8b9f09926b25864", func := "drayage/drayagelaw06.EpochsAdds", spec := "epochsAdds", unfollowed := true, recurses := true, apart := false, narrowed := true }
def EpochsAddsUptoSaid : Prop := epochsAddsUptoRow.holds Try.pinned (OpenSpec.upto epochsAddsSpec)

end Rows
end Go.Proofs.Ytdbebophchggfaa
