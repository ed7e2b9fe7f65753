/-
  No cell of these rows narrows 'for every input' (looked for: loops, veiled, ifaces, maps, wideKeys, modest, calm, conditions, laid).
  DERIVED. THE GIVEN ROWS OF THIS SEAT. 6 by the template 'for every input the law returns true; each argument reads behind the call as it read before'; 0 by the template 'total and deterministic' (their statements: YtfhnhkjbfaieiaaTotals.lean).
  GIVEN WITH THE SEED: the statements are not yours to turn. If you find one false, say at which input.
  Laid BY PROGRAM, IN A SANDBOX (cutbox-rows.mjs): the forced cells as the released guide's own fill.sh prints them over the translation 4fc257af3d1aec8a… (all of the seat's roots in one cut). By AI agents, Wed Nov 11 2026. No macro, syntax, notation, axiom, sorry.
-/
import Derived.Test.YtfhnhkjbfaieiaaChecked
import GoSem.Claim
import GoSem.ClaimJoined
import GoSem.ClaimMapViews
import Derived.JoinedTies
import Derived.KernelRfl
namespace Go.Proofs.Ytfhnhkjbfaieiaa
/- THE CELL 'sum', in the pinned program and in every row, IS THE sha256 OF THE DUMP (.gsa) THAT YtfhnhkjbfaieiaaProg.lean LOADS. Nothing in Lean hashes anything: it is a label: what it is worth is what the hold of that sum in a sandbox is worth. -/
noncomputable def Try.pinned : Pinned := { name := "ytfhnhkjbfaieiaa", sum := "4fc257af3d1aec8a15ec9b209d5ae58f32094008e0acedb5ca9d3767f2f6bd04", checked := Try.checked }
namespace Rows
def none {H : Type} : Left H := { results := [], args := [] }

/-- 'drayagelaw15.BlockReads': WHATEVER THE INPUT: true; the input reads as it did. -/
def blockReadsSpec : ChangeSpec := { name := "blockReads", fn := fun _ => fun
  | [d] => { results := [.lit (.bool true)], args := [d] }
  | _ => none }
def blockReadsRow : OpenClaim := { program := "ytfhnhkjbfaieiaa", sum := "4fc257af3d1aec8a15ec9b209d5ae58f32094008e0acedb5ca9d3767f2f6bd04", func := "drayage/drayagelaw15.BlockReads", spec := "blockReads", apart := false }
def BlockReadsSaid : Prop := blockReadsRow.holds Try.pinned (OpenSpec.ofChange blockReadsSpec)

/-- ITS FALSE NEIGHBOUR: 'it returns false'. Refute it at one input. -/
def blockReadsWrong : ChangeSpec := { name := "blockReads", fn := fun _ => fun
  | [d] => { results := [.lit (.bool false)], args := [d] }
  | _ => none }
def BlockReadsWrongFalsely : Prop := blockReadsRow.holds Try.pinned (OpenSpec.ofChange blockReadsWrong)

/-- 'drayagelaw15.BlockFirst': WHATEVER THE INPUT: true; the input reads as it did. -/
def blockFirstSpec : ChangeSpec := { name := "blockFirst", fn := fun _ => fun
  | [d1, d2, d3] => { results := [.lit (.bool true)], args := [d1, d2, d3] }
  | _ => none }
def blockFirstRow : OpenClaim := { program := "ytfhnhkjbfaieiaa", sum := "4fc257af3d1aec8a15ec9b209d5ae58f32094008e0acedb5ca9d3767f2f6bd04", func := "drayage/drayagelaw15.BlockFirst", spec := "blockFirst", apart := false }
def BlockFirstSaid : Prop := blockFirstRow.holds Try.pinned (OpenSpec.ofChange blockFirstSpec)

/-- ITS FALSE NEIGHBOUR: 'it returns false'. Refute it at one input. -/
def blockFirstWrong : ChangeSpec := { name := "blockFirst", fn := fun _ => fun
  | [d1, d2, d3] => { results := [.lit (.bool false)], args := [d1, d2, d3] }
  | _ => none }
def BlockFirstWrongFalsely : Prop := blockFirstRow.holds Try.pinned (OpenSpec.ofChange blockFirstWrong)

/-- 'drayagelaw15.BlockDark': WHATEVER THE INPUT: true; the input reads as it did. -/
def blockDarkSpec : ChangeSpec := { name := "blockDark", fn := fun _ => fun
  | [d1, d2] => { results := [.lit (.bool true)], args := [d1, d2] }
  | _ => none }
def blockDarkRow : OpenClaim := { program := "ytfhnhkjbfaieiaa", sum := "4fc257af3d1aec8a15ec9b209d5ae58f32094008e0acedb5ca9d3767f2f6bd04", func := "drayage/drayagelaw15.BlockDark", spec := "blockDark", apart := false }
def BlockDarkSaid : Prop := blockDarkRow.holds Try.pinned (OpenSpec.ofChange blockDarkSpec)

/-- ITS FALSE NEIGHBOUR: 'it returns false'. Refute it at one input. -/
def blockDarkWrong : ChangeSpec := { name := "blockDark", fn := fun _ => fun
  | [d1, d2] => { results := [.lit (.bool false)], args := [d1, d2] }
  | _ => none }
def BlockDarkWrongFalsely : Prop := blockDarkRow.holds Try.pinned (OpenSpec.ofChange blockDarkWrong)

/-- 'drayagelaw15.BlockSure': WHATEVER THE INPUT: true; the input reads as it did. -/
def blockSureSpec : ChangeSpec := { name := "blockSure", fn := fun _ => fun
  | [d1, d2, d3, d4, d5] => { results := [.lit (.bool true)], args := [d1, d2, d3, d4, d5] }
  | _ => none }
def blockSureRow : OpenClaim := { program := "ytfhnhkjbfaieiaa", sum := "4fc257af3d1aec8a15ec9b209d5ae58f32094008e0acedb5ca9d3767f2f6bd04", func := "drayage/drayagelaw15.BlockSure", spec := "blockSure", apart := false }
def BlockSureSaid : Prop := blockSureRow.holds Try.pinned (OpenSpec.ofChange blockSureSpec)

/-- ITS FALSE NEIGHBOUR: 'it returns false'. Refute it at one input. -/
def blockSureWrong : ChangeSpec := { name := "blockSure", fn := fun _ => fun
  | [d1, d2, d3, d4, d5] => { results := [.lit (.bool false)], args := [d1, d2, d3, d4, d5] }
  | _ => none }
def BlockSureWrongFalsely : Prop := blockSureRow.holds Try.pinned (OpenSpec.ofChange blockSureWrong)

/-- 'drayagelaw15.BlockPlays': WHATEVER THE INPUT: true; the input reads as it did. -/
def blockPlaysSpec : ChangeSpec := { name := "blockPlays", fn := fun _ => fun
  | [d1, d2] => { results := [.lit (.bool true)], args := [d1, d2] }
  | _ => none }
def blockPlaysRow : OpenClaim := { program := "ytfhnhkjbfaieiaa", sum := "4fc257af3d1aec8a15ec9b209d5ae58f32094008e0acedb5ca9d3767f2f6bd04", func := "drayage/drayagelaw15.BlockPlays", spec := "blockPlays", apart := false }
def BlockPlaysSaid : Prop := blockPlaysRow.holds Try.pinned (OpenSpec.ofChange blockPlaysSpec)

/-- ITS FALSE NEIGHBOUR: 'it returns false'. Refute it at one input. -/
def blockPlaysWrong : ChangeSpec := { name := "blockPlays", fn := fun _ => fun
  | [d1, d2] => { results := [.lit (.bool false)], args := [d1, d2] }
  | _ => none }
def BlockPlaysWrongFalsely : Prop := blockPlaysRow.holds Try.pinned (OpenSpec.ofChange blockPlaysWrong)

/-- 'drayagelaw15.BlockNil': WHATEVER THE INPUT: true; the input reads as it did. -/
def blockNilSpec : ChangeSpec := { name := "blockNil", fn := fun _ => fun
  | [d] => { results := [.lit (.bool true)], args := [d] }
  | _ => none }
def blockNilRow : OpenClaim := { program := "ytfhnhkjbfaieiaa", sum := "4fc257af3d1aec8a15ec9b209d5ae58f32094008e0acedb5ca9d3767f2f6bd04", func := "drayage/drayagelaw15.BlockNil", spec := "blockNil", apart := false }
def BlockNilSaid : Prop := blockNilRow.holds Try.pinned (OpenSpec.ofChange blockNilSpec)

/-- ITS FALSE NEIGHBOUR: 'it returns false'. Refute it at one input. -/
def blockNilWrong : ChangeSpec := { name := "blockNil", fn := fun _ => fun
  | [d] => { results := [.lit (.bool false)], args := [d] }
  | _ => none }
def BlockNilWrongFalsely : Prop := blockNilRow.holds Try.pinned (OpenSpec.ofChange blockNilWrong)

/- THE SECOND FORM. 'bulk': how many values and letters a reading holds, each counted each time it is reached (what is shared counts as often as it is met; a slice's spare places count too). A statement '..UptoSaid' is the law's where the arguments, and the package variables that the reading takes, are together of bulk at most 1048576: NARROWER than '..Said'. Prove '..Said' where nothing that the law and all that it calls make is longer than what came in: it says more and counts as full. Else prove '..UptoSaid'. A law counts once. -/
mutual
def uptoBulk {H : Type} : DataW H → Nat
  | .lit (.string bytes) => bytes.length + 1
  | .lit _ => 1
  | .nil => 1
  | .ptr d => uptoBulk d + 1
  | .slice elems spare => uptoBulkAll elems + uptoBulkAll spare + 1
  | .agg parts => uptoBulkAll parts + 1
  | .iface _ d => uptoBulk d + 1
  | .map entries => uptoBulkEntries entries + 1
  | .held _ => 1
def uptoBulkAll {H : Type} : List (DataW H) → Nat
  | [] => 0
  | d :: r => uptoBulk d + uptoBulkAll r
def uptoBulkEntries {H : Type} : List (Lit × DataW H) → Nat
  | [] => 0
  | x :: r => uptoBulkEntry x + uptoBulkEntries r
def uptoBulkEntry {H : Type} : Lit × DataW H → Nat
  | (.string bytes, d) => bytes.length + uptoBulk d + 1
  | (_, d) => uptoBulk d + 1
 end
def uptoSmall : (H : Type) → List (DataW H) → Bool := fun _ ds => decide (uptoBulkAll ds ≤ 1048576)
def OpenSpec.upto (s : _root_.Go.ChangeSpec) : _root_.Go.OpenSpec := { _root_.Go.OpenSpec.ofChange s with cond := some uptoSmall }

/-- 'drayagelaw15.BlockReads', WHERE WHAT IT READS IS OF BULK AT MOST 1048576: true; the input reads as it did. -/
def blockReadsUptoRow : OpenClaim := { program := "ytfhnhkjbfaieiaa", sum := "4fc257af3d1aec8a15ec9b209d5ae58f32094008e0acedb5ca9d3767f2f6bd04", func := "drayage/drayagelaw15.BlockReads", spec := "blockReads", apart := false, narrowed := true }
def BlockReadsUptoSaid : Prop := blockReadsUptoRow.holds Try.pinned (OpenSpec.upto blockReadsSpec)

/-- 'drayagelaw15.BlockFirst', WHERE WHAT IT READS IS OF BULK AT MOST 1048576: true; the input reads as it did. -/
def blockFirstUptoRow : OpenClaim := { program := "ytfhnhkjbfaieiaa", sum := "4fc257af3d1aec8a15ec9b209d5ae58f32094008e0acedb5ca9d3767f2f6bd04", func := "drayage/drayagelaw15.BlockFirst", spec := "blockFirst", apart := false, narrowed := true }
def BlockFirstUptoSaid : Prop := blockFirstUptoRow.holds Try.pinned (OpenSpec.upto blockFirstSpec)

/-- 'drayagelaw15.BlockDark', WHERE WHAT IT READS IS OF BULK AT MOST 1048576: true; the input reads as it did. -/
def blockDarkUptoRow : OpenClaim := { program := "ytfhnhkjbfaieiaa", sum := "4fc257af3d1aec8a15ec9b209d5ae58f32094008e0acedb5ca9d3767f2f6bd04", func := "drayage/drayagelaw15.BlockDark", spec := "blockDark", apart := false, narrowed := true }
def BlockDarkUptoSaid : Prop := blockDarkUptoRow.holds Try.pinned (OpenSpec.upto blockDarkSpec)

/-- 'drayagelaw15.BlockSure', WHERE WHAT IT READS IS OF BULK AT MOST 1048576: true; the input reads as it did. -/
def blockSureUptoRow : OpenClaim := { program := "ytfhnhkjbfaieiaa", sum := "4fc257af3d1aec8a15ec9b209d5ae58f32094008e0acedb5ca9d3767f2f6bd04", func := "drayage/drayagelaw15.BlockSure", spec := "blockSure", apart := false, narrowed := true }
def BlockSureUptoSaid : Prop := blockSureUptoRow.holds Try.pinned (OpenSpec.upto blockSureSpec)

/-- 'drayagelaw15.BlockPlays', WHERE WHAT IT READS IS OF BULK AT MOST 1048576: true; the input reads as it did. -/
def blockPlaysUptoRow : OpenClaim := { program := "ytfhnhkjbfaieiaa", sum := "4fc257af3d1aec8a15ec9b209d5ae58f32094008e0acedb5ca9d3767f2f6bd04", func := "drayage/drayagelaw15.BlockPlays", spec := "blockPlays", apart := false, narrowed := true }
def BlockPlaysUptoSaid : Prop := blockPlaysUptoRow.holds Try.pinned (OpenSpec.upto blockPlaysSpec)

/-- 'drayagelaw15.BlockNil', WHERE WHAT IT READS IS OF BULK AT MOST 1048576: true; the input reads as it did. -/
def blockNilUptoRow : OpenClaim := { program := "ytfhnhkjbfaieiaa", sum := "4fc257af3d1aec8a15ec9b209d5ae58f32094008e0acedb5ca9d3767f2f6bd04", func := "drayage/drayagelaw15.BlockNil", spec := "blockNil", apart := false, narrowed := true }
def BlockNilUptoSaid : Prop := blockNilUptoRow.holds Try.pinned (OpenSpec.upto blockNilSpec)

end Rows
end Go.Proofs.Ytfhnhkjbfaieiaa
