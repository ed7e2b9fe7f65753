/-
  No cell of these rows narrows 'for every input' (looked for: loops, veiled, ifaces, maps, wideKeys, modest, calm, conditions, laid).
  DERIVED. THE GIVEN ROWS OF THIS SEAT. 7 by the template 'for every input the law returns true; each argument reads behind the call as it read before'; 0 by the template 'total and deterministic' (their statements: YtmepidkffpmflaaTotals.lean).
  GIVEN WITH THE SEED: the statements are not yours to turn. If you find one false, say at which input.
  Laid BY PROGRAM, IN A SANDBOX (cutbox-rows.mjs): the forced cells as the released guide's own fill.sh prints them over the translation e05d81343cee5ad8… (all of the seat's roots in one cut). By AI agents, Wed Nov 11 2026. No macro, syntax, notation, axiom, sorry.
-/
import Derived.Test.YtmepidkffpmflaaChecked
import GoSem.Claim
import GoSem.ClaimJoined
import GoSem.ClaimMapViews
import Derived.JoinedTies
import Derived.KernelRfl
namespace Go.Proofs.Ytmepidkffpmflaa
/- THE CELL 'sum', in the pinned program and in every row, IS THE sha256 OF THE DUMP (.gsa) THAT YtmepidkffpmflaaProg.lean LOADS. Nothing in Lean hashes anything: it is a label: what it is worth is what the hold of that sum in a sandbox is worth. -/
noncomputable def Try.pinned : Pinned := { name := "ytmepidkffpmflaa", sum := "e05d81343cee5ad814cdab513a5e4b29a63477af4b4671215875f9dbac1978e4", checked := Try.checked }
namespace Rows
def none {H : Type} : Left H := { results := [], args := [] }

/-- 'drayagelaw07.LeaseTells': WHATEVER THE INPUT: true; the input reads as it did. -/
def leaseTellsSpec : ChangeSpec := { name := "leaseTells", fn := fun _ => fun
  | [d1, d2, d3, d4] => { results := [.lit (.bool true)], args := [d1, d2, d3, d4] }
  | _ => none }
def leaseTellsRow : OpenClaim := { program := "ytmepidkffpmflaa", sum := "e05d81343cee5ad814cdab513a5e4b29a63477af4b4671215875f9dbac1978e4", func := "drayage/drayagelaw07.LeaseTells", spec := "leaseTells", apart := false }
def LeaseTellsSaid : Prop := leaseTellsRow.holds Try.pinned (OpenSpec.ofChange leaseTellsSpec)

/-- ITS FALSE NEIGHBOUR: 'it returns false'. Refute it at one input. -/
def leaseTellsWrong : ChangeSpec := { name := "leaseTells", fn := fun _ => fun
  | [d1, d2, d3, d4] => { results := [.lit (.bool false)], args := [d1, d2, d3, d4] }
  | _ => none }
def LeaseTellsWrongFalsely : Prop := leaseTellsRow.holds Try.pinned (OpenSpec.ofChange leaseTellsWrong)

/-- 'drayagelaw07.LeaseGrants': WHATEVER THE INPUT: true; the input reads as it did. -/
def leaseGrantsSpec : ChangeSpec := { name := "leaseGrants", fn := fun _ => fun
  | [d1, d2, d3, d4, d5] => { results := [.lit (.bool true)], args := [d1, d2, d3, d4, d5] }
  | _ => none }
def leaseGrantsRow : OpenClaim := { program := "ytmepidkffpmflaa", sum := "e05d81343cee5ad814cdab513a5e4b29a63477af4b4671215875f9dbac1978e4", func := "drayage/drayagelaw07.LeaseGrants", spec := "leaseGrants", apart := false }
def LeaseGrantsSaid : Prop := leaseGrantsRow.holds Try.pinned (OpenSpec.ofChange leaseGrantsSpec)

/-- ITS FALSE NEIGHBOUR: 'it returns false'. Refute it at one input. -/
def leaseGrantsWrong : ChangeSpec := { name := "leaseGrants", fn := fun _ => fun
  | [d1, d2, d3, d4, d5] => { results := [.lit (.bool false)], args := [d1, d2, d3, d4, d5] }
  | _ => none }
def LeaseGrantsWrongFalsely : Prop := leaseGrantsRow.holds Try.pinned (OpenSpec.ofChange leaseGrantsWrong)

/-- 'drayagelaw07.LeaseGuard': WHATEVER THE INPUT: true; the input reads as it did. -/
def leaseGuardSpec : ChangeSpec := { name := "leaseGuard", fn := fun _ => fun
  | [d1, d2, d3, d4, d5] => { results := [.lit (.bool true)], args := [d1, d2, d3, d4, d5] }
  | _ => none }
def leaseGuardRow : OpenClaim := { program := "ytmepidkffpmflaa", sum := "e05d81343cee5ad814cdab513a5e4b29a63477af4b4671215875f9dbac1978e4", func := "drayage/drayagelaw07.LeaseGuard", spec := "leaseGuard", apart := false }
def LeaseGuardSaid : Prop := leaseGuardRow.holds Try.pinned (OpenSpec.ofChange leaseGuardSpec)

/-- ITS FALSE NEIGHBOUR: 'it returns false'. Refute it at one input. -/
def leaseGuardWrong : ChangeSpec := { name := "leaseGuard", fn := fun _ => fun
  | [d1, d2, d3, d4, d5] => { results := [.lit (.bool false)], args := [d1, d2, d3, d4, d5] }
  | _ => none }
def LeaseGuardWrongFalsely : Prop := leaseGuardRow.holds Try.pinned (OpenSpec.ofChange leaseGuardWrong)

/-- 'drayagelaw07.LeaseRenews': WHATEVER THE INPUT: true; the input reads as it did. -/
def leaseRenewsSpec : ChangeSpec := { name := "leaseRenews", fn := fun _ => fun
  | [d1, d2, d3, d4, d5, d6] => { results := [.lit (.bool true)], args := [d1, d2, d3, d4, d5, d6] }
  | _ => none }
def leaseRenewsRow : OpenClaim := { program := "ytmepidkffpmflaa", sum := "e05d81343cee5ad814cdab513a5e4b29a63477af4b4671215875f9dbac1978e4", func := "drayage/drayagelaw07.LeaseRenews", spec := "leaseRenews", apart := false }
def LeaseRenewsSaid : Prop := leaseRenewsRow.holds Try.pinned (OpenSpec.ofChange leaseRenewsSpec)

/-- ITS FALSE NEIGHBOUR: 'it returns false'. Refute it at one input. -/
def leaseRenewsWrong : ChangeSpec := { name := "leaseRenews", fn := fun _ => fun
  | [d1, d2, d3, d4, d5, d6] => { results := [.lit (.bool false)], args := [d1, d2, d3, d4, d5, d6] }
  | _ => none }
def LeaseRenewsWrongFalsely : Prop := leaseRenewsRow.holds Try.pinned (OpenSpec.ofChange leaseRenewsWrong)

/-- 'drayagelaw07.LeaseAlone': WHATEVER THE INPUT: true; the input reads as it did. -/
def leaseAloneSpec : ChangeSpec := { name := "leaseAlone", fn := fun _ => fun
  | [d1, d2, d3] => { results := [.lit (.bool true)], args := [d1, d2, d3] }
  | _ => none }
def leaseAloneRow : OpenClaim := { program := "ytmepidkffpmflaa", sum := "e05d81343cee5ad814cdab513a5e4b29a63477af4b4671215875f9dbac1978e4", func := "drayage/drayagelaw07.LeaseAlone", spec := "leaseAlone", apart := false }
def LeaseAloneSaid : Prop := leaseAloneRow.holds Try.pinned (OpenSpec.ofChange leaseAloneSpec)

/-- ITS FALSE NEIGHBOUR: 'it returns false'. Refute it at one input. -/
def leaseAloneWrong : ChangeSpec := { name := "leaseAlone", fn := fun _ => fun
  | [d1, d2, d3] => { results := [.lit (.bool false)], args := [d1, d2, d3] }
  | _ => none }
def LeaseAloneWrongFalsely : Prop := leaseAloneRow.holds Try.pinned (OpenSpec.ofChange leaseAloneWrong)

/-- 'drayagelaw07.LeaseKeeps': WHATEVER THE INPUT: true; the input reads as it did. -/
def leaseKeepsSpec : ChangeSpec := { name := "leaseKeeps", fn := fun _ => fun
  | [d1, d2, d3, d4, d5, d6] => { results := [.lit (.bool true)], args := [d1, d2, d3, d4, d5, d6] }
  | _ => none }
def leaseKeepsRow : OpenClaim := { program := "ytmepidkffpmflaa", sum := "e05d81343cee5ad814cdab513a5e4b29a63477af4b4671215875f9dbac1978e4", func := "drayage/drayagelaw07.LeaseKeeps", spec := "leaseKeeps", apart := false }
def LeaseKeepsSaid : Prop := leaseKeepsRow.holds Try.pinned (OpenSpec.ofChange leaseKeepsSpec)

/-- ITS FALSE NEIGHBOUR: 'it returns false'. Refute it at one input. -/
def leaseKeepsWrong : ChangeSpec := { name := "leaseKeeps", fn := fun _ => fun
  | [d1, d2, d3, d4, d5, d6] => { results := [.lit (.bool false)], args := [d1, d2, d3, d4, d5, d6] }
  | _ => none }
def LeaseKeepsWrongFalsely : Prop := leaseKeepsRow.holds Try.pinned (OpenSpec.ofChange leaseKeepsWrong)

/-- 'drayagelaw07.LeaseMode': WHATEVER THE INPUT: true; the input reads as it did. -/
def leaseModeSpec : ChangeSpec := { name := "leaseMode", fn := fun _ => fun
  | [d1, d2, d3, d4] => { results := [.lit (.bool true)], args := [d1, d2, d3, d4] }
  | _ => none }
def leaseModeRow : OpenClaim := { program := "ytmepidkffpmflaa", sum := "e05d81343cee5ad814cdab513a5e4b29a63477af4b4671215875f9dbac1978e4", func := "drayage/drayagelaw07.LeaseMode", spec := "leaseMode", apart := false }
def LeaseModeSaid : Prop := leaseModeRow.holds Try.pinned (OpenSpec.ofChange leaseModeSpec)

/-- ITS FALSE NEIGHBOUR: 'it returns false'. Refute it at one input. -/
def leaseModeWrong : ChangeSpec := { name := "leaseMode", fn := fun _ => fun
  | [d1, d2, d3, d4] => { results := [.lit (.bool false)], args := [d1, d2, d3, d4] }
  | _ => none }
def LeaseModeWrongFalsely : Prop := leaseModeRow.holds Try.pinned (OpenSpec.ofChange leaseModeWrong)

/- THE SECOND FORM. 'bulk': how many values and letters a reading holds, each counted each time it is reached (what is shared counts as often as it is met; a slice's spare places count too). A statement '..UptoSaid' is the law's where the arguments, and the package variables that the reading takes, are together of bulk at most 1048576: NARROWER than '..Said'. Prove '..Said' where nothing that the law and all that it calls make is longer than what came in: it says more and counts as full. Else prove '..UptoSaid'. A law counts once. -/
mutual
def uptoBulk {H : Type} : DataW H → Nat
  | .lit (.string bytes) => bytes.length + 1
  | .lit _ => 1
  | .nil => 1
  | .ptr d => uptoBulk d + 1
  | .slice elems spare => uptoBulkAll elems + uptoBulkAll spare + 1
  | .agg parts => uptoBulkAll parts + 1
  | .iface _ d => uptoBulk d + 1
  | .map entries => uptoBulkEntries entries + 1
  | .held _ => 1
def uptoBulkAll {H : Type} : List (DataW H) → Nat
  | [] => 0
  | d :: r => uptoBulk d + uptoBulkAll r
def uptoBulkEntries {H : Type} : List (Lit × DataW H) → Nat
  | [] => 0
  | x :: r => uptoBulkEntry x + uptoBulkEntries r
def uptoBulkEntry {H : Type} : Lit × DataW H → Nat
  | (.string bytes, d) => bytes.length + uptoBulk d + 1
  | (_, d) => uptoBulk d + 1
 end
def uptoSmall : (H : Type) → List (DataW H) → Bool := fun _ ds => decide (uptoBulkAll ds ≤ 1048576)
def OpenSpec.upto (s : _root_.Go.ChangeSpec) : _root_.Go.OpenSpec := { _root_.Go.OpenSpec.ofChange s with cond := some uptoSmall }

/-- 'drayagelaw07.LeaseTells', WHERE WHAT IT READS IS OF BULK AT MOST 1048576: true; the input reads as it did. -/
def leaseTellsUptoRow : OpenClaim := { program := "ytmepidkffpmflaa", sum := "e05d81343cee5ad814cdab513a5e4b29a63477af4b4671215875f9dbac1978e4", func := "drayage/drayagelaw07.LeaseTells", spec := "leaseTells", apart := false, narrowed := true }
def LeaseTellsUptoSaid : Prop := leaseTellsUptoRow.holds Try.pinned (OpenSpec.upto leaseTellsSpec)

/-- 'drayagelaw07.LeaseGrants', WHERE WHAT IT READS IS OF BULK AT MOST 1048576: true; the input reads as it did. -/
def leaseGrantsUptoRow : OpenClaim := { program := "ytmepidkffpmflaa", sum := "e05d81343cee5ad814cdab513a5e4b29a63477af4b4671215875f9dbac1978e4", func := "drayage/drayagelaw07.LeaseGrants", spec := "leaseGrants", apart := false, narrowed := true }
def LeaseGrantsUptoSaid : Prop := leaseGrantsUptoRow.holds Try.pinned (OpenSpec.upto leaseGrantsSpec)

/-- 'drayagelaw07.LeaseGuard', WHERE WHAT IT READS IS OF BULK AT MOST 1048576: true; the input reads as it did. -/
def leaseGuardUptoRow : OpenClaim := { program := "ytmepidkffpmflaa", sum := "e05d81343cee5ad814cdab513a5e4b29a63477af4b4671215875f9dbac1978e4", func := "drayage/drayagelaw07.LeaseGuard", spec := "leaseGuard", apart := false, narrowed := true }
def LeaseGuardUptoSaid : Prop := leaseGuardUptoRow.holds Try.pinned (OpenSpec.upto leaseGuardSpec)

/-- 'drayagelaw07.LeaseRenews', WHERE WHAT IT READS IS OF BULK AT MOST 1048576: true; the input reads as it did. -/
def leaseRenewsUptoRow : OpenClaim := { program := "ytmepidkffpmflaa", sum := "e05d81343cee5ad814cdab513a5e4b29a63477af4b4671215875f9dbac1978e4", func := "drayage/drayagelaw07.LeaseRenews", spec := "leaseRenews", apart := false, narrowed := true }
def LeaseRenewsUptoSaid : Prop := leaseRenewsUptoRow.holds Try.pinned (OpenSpec.upto leaseRenewsSpec)

/-- 'drayagelaw07.LeaseAlone', WHERE WHAT IT READS IS OF BULK AT MOST 1048576: true; the input reads as it did. -/
def leaseAloneUptoRow : OpenClaim := { program := "ytmepidkffpmflaa", sum := "e05d81343cee5ad814cdab513a5e4b29a63477af4b4671215875f9dbac1978e4", func := "drayage/drayagelaw07.LeaseAlone", spec := "leaseAlone", apart := false, narrowed := true }
def LeaseAloneUptoSaid : Prop := leaseAloneUptoRow.holds Try.pinned (OpenSpec.upto leaseAloneSpec)

/-- 'drayagelaw07.LeaseKeeps', WHERE WHAT IT READS IS OF BULK AT MOST 1048576: true; the input reads as it did. -/
def leaseKeepsUptoRow : OpenClaim := { program := "ytmepidkffpmflaa", sum := "e05d81343cee5ad814cdab513a5e4b29a63477af4b4671215875f9dbac1978e4", func := "drayage/drayagelaw07.LeaseKeeps", spec := "leaseKeeps", apart := false, narrowed := true }
def LeaseKeepsUptoSaid : Prop := leaseKeepsUptoRow.holds Try.pinned (OpenSpec.upto leaseKeepsSpec)

/-- 'drayagelaw07.LeaseMode', WHERE WHAT IT READS IS OF BULK AT MOST 1048576: true; the input reads as it did. -/
def leaseModeUptoRow : OpenClaim := { program := "ytmepidkffpmflaa", sum := "e05d81343cee5ad814cdab513a5e4b29a63477af4b4671215875f9dbac1978e4", func := "drayage/drayagelaw07.LeaseMode", spec := "leaseMode", apart := false, narrowed := true }
def LeaseModeUptoSaid : Prop := leaseModeUptoRow.holds Try.pinned (OpenSpec.upto leaseModeSpec)

end Rows
end Go.Proofs.Ytmepidkffpmflaa
