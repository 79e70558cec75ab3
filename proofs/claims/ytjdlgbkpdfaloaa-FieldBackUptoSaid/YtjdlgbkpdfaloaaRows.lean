/-
  No cell of these rows narrows 'for every input' (looked for: loops, veiled, ifaces, maps, wideKeys, modest, calm, conditions, laid).
  DERIVED. THE GIVEN ROWS OF THIS SEAT. 10 by the template 'for every input the law returns true; each argument reads behind the call as it read before'; 0 by the template 'total and deterministic' (their statements: YtjdlgbkpdfaloaaTotals.lean).
  GIVEN WITH THE SEED: the statements are not yours to turn. If you find one false, say at which input.
  Laid BY PROGRAM, IN A SANDBOX (cutbox-rows.mjs): the forced cells as the released guide's own fill.sh prints them over the translation 756a63649af43d43… (all of the seat's roots in one cut). By AI agents, Wed Nov 11 2026. No macro, syntax, notation, axiom, sorry.
-/
import Derived.Test.YtjdlgbkpdfaloaaChecked
import GoSem.Claim
import GoSem.ClaimJoined
import GoSem.ClaimMapViews
import Derived.JoinedTies
import Derived.KernelRfl
namespace Go.Proofs.Ytjdlgbkpdfaloaa
/- THE CELL 'sum', in the pinned program and in every row, IS THE sha256 OF THE DUMP (.gsa) THAT YtjdlgbkpdfaloaaProg.lean LOADS. Nothing in Lean hashes anything: it is a label: what it is worth is what the hold of that sum in a sandbox is worth. -/
noncomputable def Try.pinned : Pinned := { name := "ytjdlgbkpdfaloaa", sum := "756a63649af43d43926cbaa754440a313fef72a334b3f7b55477a4db62a9e0e2", checked := Try.checked }
namespace Rows
def none {H : Type} : Left H := { results := [], args := [] }

/-- 'chittylaw02.BlockPads': WHATEVER THE INPUT: true; the input reads as it did. -/
def blockPadsSpec : ChangeSpec := { name := "blockPads", fn := fun _ => fun
  | [d] => { results := [.lit (.bool true)], args := [d] }
  | _ => none }
def blockPadsRow : OpenClaim := { program := "ytjdlgbkpdfaloaa", sum := "756a63649af43d43926cbaa754440a313fef72a334b3f7b55477a4db62a9e0e2", func := "chitty/chittylaw02.BlockPads", spec := "blockPads", apart := false }
def BlockPadsSaid : Prop := blockPadsRow.holds Try.pinned (OpenSpec.ofChange blockPadsSpec)

/-- ITS FALSE NEIGHBOUR: 'it returns false'. Refute it at one input. -/
def blockPadsWrong : ChangeSpec := { name := "blockPads", fn := fun _ => fun
  | [d] => { results := [.lit (.bool false)], args := [d] }
  | _ => none }
def BlockPadsWrongFalsely : Prop := blockPadsRow.holds Try.pinned (OpenSpec.ofChange blockPadsWrong)

/-- 'chittylaw02.BlockPrimes': WHATEVER THE INPUT: true; the input reads as it did. -/
def blockPrimesSpec : ChangeSpec := { name := "blockPrimes", fn := fun _ => fun
  | [] => { results := [.lit (.bool true)], args := [] }
  | _ => none }
def blockPrimesRow : OpenClaim := { program := "ytjdlgbkpdfaloaa", sum := "756a63649af43d43926cbaa754440a313fef72a334b3f7b55477a4db62a9e0e2", func := "chitty/chittylaw02.BlockPrimes", spec := "blockPrimes", apart := false }
def BlockPrimesSaid : Prop := blockPrimesRow.holds Try.pinned (OpenSpec.ofChange blockPrimesSpec)

/-- ITS FALSE NEIGHBOUR: 'it returns false'. Refute it at one input. -/
def blockPrimesWrong : ChangeSpec := { name := "blockPrimes", fn := fun _ => fun
  | [] => { results := [.lit (.bool false)], args := [] }
  | _ => none }
def BlockPrimesWrongFalsely : Prop := blockPrimesRow.holds Try.pinned (OpenSpec.ofChange blockPrimesWrong)

/-- 'chittylaw05.TagTurns': WHATEVER THE INPUT: true; the input reads as it did. -/
def tagTurnsSpec : ChangeSpec := { name := "tagTurns", fn := fun _ => fun
  | [d1, d2] => { results := [.lit (.bool true)], args := [d1, d2] }
  | _ => none }
def tagTurnsRow : OpenClaim := { program := "ytjdlgbkpdfaloaa", sum := "756a63649af43d43926cbaa754440a313fef72a334b3f7b55477a4db62a9e0e2", func := "chitty/chittylaw05.TagTurns", spec := "tagTurns", apart := false }
def TagTurnsSaid : Prop := tagTurnsRow.holds Try.pinned (OpenSpec.ofChange tagTurnsSpec)

/-- ITS FALSE NEIGHBOUR: 'it returns false'. Refute it at one input. -/
def tagTurnsWrong : ChangeSpec := { name := "tagTurns", fn := fun _ => fun
  | [d1, d2] => { results := [.lit (.bool false)], args := [d1, d2] }
  | _ => none }
def TagTurnsWrongFalsely : Prop := tagTurnsRow.holds Try.pinned (OpenSpec.ofChange tagTurnsWrong)

/-- 'chittylaw05.TagTells': WHATEVER THE INPUT: true; the input reads as it did. -/
def tagTellsSpec : ChangeSpec := { name := "tagTells", fn := fun _ => fun
  | [d1, d2] => { results := [.lit (.bool true)], args := [d1, d2] }
  | _ => none }
def tagTellsRow : OpenClaim := { program := "ytjdlgbkpdfaloaa", sum := "756a63649af43d43926cbaa754440a313fef72a334b3f7b55477a4db62a9e0e2", func := "chitty/chittylaw05.TagTells", spec := "tagTells", apart := false }
def TagTellsSaid : Prop := tagTellsRow.holds Try.pinned (OpenSpec.ofChange tagTellsSpec)

/-- ITS FALSE NEIGHBOUR: 'it returns false'. Refute it at one input. -/
def tagTellsWrong : ChangeSpec := { name := "tagTells", fn := fun _ => fun
  | [d1, d2] => { results := [.lit (.bool false)], args := [d1, d2] }
  | _ => none }
def TagTellsWrongFalsely : Prop := tagTellsRow.holds Try.pinned (OpenSpec.ofChange tagTellsWrong)

/-- 'chittylaw08.VarintTells': WHATEVER THE INPUT: true; the input reads as it did. -/
def varintTellsSpec : ChangeSpec := { name := "varintTells", fn := fun _ => fun
  | [d1, d2] => { results := [.lit (.bool true)], args := [d1, d2] }
  | _ => none }
def varintTellsRow : OpenClaim := { program := "ytjdlgbkpdfaloaa", sum := "756a63649af43d43926cbaa754440a313fef72a334b3f7b55477a4db62a9e0e2", func := "chitty/chittylaw08.VarintTells", spec := "varintTells", recurses := true, apart := false }
def VarintTellsSaid : Prop := varintTellsRow.holds Try.pinned (OpenSpec.ofChange varintTellsSpec)

/-- ITS FALSE NEIGHBOUR: 'it returns false'. Refute it at one input. -/
def varintTellsWrong : ChangeSpec := { name := "varintTells", fn := fun _ => fun
  | [d1, d2] => { results := [.lit (.bool false)], args := [d1, d2] }
  | _ => none }
def VarintTellsWrongFalsely : Prop := varintTellsRow.holds Try.pinned (OpenSpec.ofChange varintTellsWrong)

/-- 'chittylaw08.VarintBack': WHATEVER THE INPUT: true; the input reads as it did. -/
def varintBackSpec : ChangeSpec := { name := "varintBack", fn := fun _ => fun
  | [d1, d2] => { results := [.lit (.bool true)], args := [d1, d2] }
  | _ => none }
def varintBackRow : OpenClaim := { program := "ytjdlgbkpdfaloaa", sum := "756a63649af43d43926cbaa754440a313fef72a334b3f7b55477a4db62a9e0e2", func := "chitty/chittylaw08.VarintBack", spec := "varintBack", apart := false }
def VarintBackSaid : Prop := varintBackRow.holds Try.pinned (OpenSpec.ofChange varintBackSpec)

/-- ITS FALSE NEIGHBOUR: 'it returns false'. Refute it at one input. -/
def varintBackWrong : ChangeSpec := { name := "varintBack", fn := fun _ => fun
  | [d1, d2] => { results := [.lit (.bool false)], args := [d1, d2] }
  | _ => none }
def VarintBackWrongFalsely : Prop := varintBackRow.holds Try.pinned (OpenSpec.ofChange varintBackWrong)

/-- 'chittylaw02.BlockRows': WHATEVER THE INPUT: true; the input reads as it did. -/
def blockRowsSpec : ChangeSpec := { name := "blockRows", fn := fun _ => fun
  | [d1, d2] => { results := [.lit (.bool true)], args := [d1, d2] }
  | _ => none }
def blockRowsRow : OpenClaim := { program := "ytjdlgbkpdfaloaa", sum := "756a63649af43d43926cbaa754440a313fef72a334b3f7b55477a4db62a9e0e2", func := "chitty/chittylaw02.BlockRows", spec := "blockRows", apart := false }
def BlockRowsSaid : Prop := blockRowsRow.holds Try.pinned (OpenSpec.ofChange blockRowsSpec)

/-- ITS FALSE NEIGHBOUR: 'it returns false'. Refute it at one input. -/
def blockRowsWrong : ChangeSpec := { name := "blockRows", fn := fun _ => fun
  | [d1, d2] => { results := [.lit (.bool false)], args := [d1, d2] }
  | _ => none }
def BlockRowsWrongFalsely : Prop := blockRowsRow.holds Try.pinned (OpenSpec.ofChange blockRowsWrong)

/-- 'chittylaw05.TagTexts': WHATEVER THE INPUT: true; the input reads as it did. -/
def tagTextsSpec : ChangeSpec := { name := "tagTexts", fn := fun _ => fun
  | [d1, d2, d3] => { results := [.lit (.bool true)], args := [d1, d2, d3] }
  | _ => none }
def tagTextsRow : OpenClaim := { program := "ytjdlgbkpdfaloaa", sum := "756a63649af43d43926cbaa754440a313fef72a334b3f7b55477a4db62a9e0e2", func := "chitty/chittylaw05.TagTexts", spec := "tagTexts", inPlace := ["internal/bytealg.IndexByteString"], apart := false }
def TagTextsSaid : Prop := tagTextsRow.holds Try.pinned (OpenSpec.ofChange tagTextsSpec)

/-- ITS FALSE NEIGHBOUR: 'it returns false'. Refute it at one input. -/
def tagTextsWrong : ChangeSpec := { name := "tagTexts", fn := fun _ => fun
  | [d1, d2, d3] => { results := [.lit (.bool false)], args := [d1, d2, d3] }
  | _ => none }
def TagTextsWrongFalsely : Prop := tagTextsRow.holds Try.pinned (OpenSpec.ofChange tagTextsWrong)

/-- 'chittylaw09.FieldTells': WHATEVER THE INPUT: true; the input reads as it did. -/
def fieldTellsSpec : ChangeSpec := { name := "fieldTells", fn := fun _ => fun
  | [d1, d2] => { results := [.lit (.bool true)], args := [d1, d2] }
  | _ => none }
def fieldTellsRow : OpenClaim := { program := "ytjdlgbkpdfaloaa", sum := "756a63649af43d43926cbaa754440a313fef72a334b3f7b55477a4db62a9e0e2", func := "chitty/chittylaw09.FieldTells", spec := "fieldTells", recurses := true, apart := false }
def FieldTellsSaid : Prop := fieldTellsRow.holds Try.pinned (OpenSpec.ofChange fieldTellsSpec)

/-- ITS FALSE NEIGHBOUR: 'it returns false'. Refute it at one input. -/
def fieldTellsWrong : ChangeSpec := { name := "fieldTells", fn := fun _ => fun
  | [d1, d2] => { results := [.lit (.bool false)], args := [d1, d2] }
  | _ => none }
def FieldTellsWrongFalsely : Prop := fieldTellsRow.holds Try.pinned (OpenSpec.ofChange fieldTellsWrong)

/-- 'chittylaw09.FieldBack': WHATEVER THE INPUT: true; the input reads as it did. -/
def fieldBackSpec : ChangeSpec := { name := "fieldBack", fn := fun _ => fun
  | [d1, d2, d3] => { results := [.lit (.bool true)], args := [d1, d2, d3] }
  | _ => none }
def fieldBackRow : OpenClaim := { program := "ytjdlgbkpdfaloaa", sum := "756a63649af43d43926cbaa754440a313fef72a334b3f7b55477a4db62a9e0e2", func := "chitty/chittylaw09.FieldBack", spec := "fieldBack", apart := false }
def FieldBackSaid : Prop := fieldBackRow.holds Try.pinned (OpenSpec.ofChange fieldBackSpec)

/-- ITS FALSE NEIGHBOUR: 'it returns false'. Refute it at one input. -/
def fieldBackWrong : ChangeSpec := { name := "fieldBack", fn := fun _ => fun
  | [d1, d2, d3] => { results := [.lit (.bool false)], args := [d1, d2, d3] }
  | _ => none }
def FieldBackWrongFalsely : Prop := fieldBackRow.holds Try.pinned (OpenSpec.ofChange fieldBackWrong)

/- THE SECOND FORM. 'bulk': how many values and letters a reading holds, each counted each time it is reached (what is shared counts as often as it is met; a slice's spare places count too). A statement '..UptoSaid' is the law's where the arguments, and the package variables that the reading takes, are together of bulk at most 1048576: NARROWER than '..Said'. Prove '..Said' where nothing that the law and all that it calls make is longer than what came in: it says more and counts as full. Else prove '..UptoSaid'. A law counts once. -/
mutual
def uptoBulk {H : Type} : DataW H → Nat
  | .lit (.string bytes) => bytes.length + 1
  | .lit _ => 1
  | .nil => 1
  | .ptr d => uptoBulk d + 1
  | .slice elems spare => uptoBulkAll elems + uptoBulkAll spare + 1
  | .agg parts => uptoBulkAll parts + 1
  | .iface _ d => uptoBulk d + 1
  | .map entries => uptoBulkEntries entries + 1
  | .held _ => 1
def uptoBulkAll {H : Type} : List (DataW H) → Nat
  | [] => 0
  | d :: r => uptoBulk d + uptoBulkAll r
def uptoBulkEntries {H : Type} : List (Lit × DataW H) → Nat
  | [] => 0
  | x :: r => uptoBulkEntry x + uptoBulkEntries r
def uptoBulkEntry {H : Type} : Lit × DataW H → Nat
  | (.string bytes, d) => bytes.length + uptoBulk d + 1
  | (_, d) => uptoBulk d + 1
 end
def uptoSmall : (H : Type) → List (DataW H) → Bool := fun _ ds => decide (uptoBulkAll ds ≤ 1048576)
def OpenSpec.upto (s : _root_.Go.ChangeSpec) : _root_.Go.OpenSpec := { _root_.Go.OpenSpec.ofChange s with cond := some uptoSmall }

/-- 'chittylaw02.BlockPads', WHERE WHAT IT READS IS OF BULK AT MOST 1048576: true; the input reads as it did. -/
def blockPadsUptoRow : OpenClaim := { program := "ytjdlgbkpdfaloaa", sum := "756a63649af43d43926cbaa754440a313fef72a334b3f7b55477a4db62a9e0e2", func := "chitty/chittylaw02.BlockPads", spec := "blockPads", apart := false, narrowed := true }
def BlockPadsUptoSaid : Prop := blockPadsUptoRow.holds Try.pinned (OpenSpec.upto blockPadsSpec)

/-- 'chittylaw02.BlockPrimes', WHERE WHAT IT READS IS OF BULK AT MOST 1048576: true; the input reads as it did. -/
def blockPrimesUptoRow : OpenClaim := { program := "ytjdlgbkpdfaloaa", sum := "756a63649af43d43926cbaa754440a313fef72a334b3f7b55477a4db62a9e0e2", func := "chitty/chittylaw02.BlockPrimes", spec := "blockPrimes", apart := false, narrowed := true }
def BlockPrimesUptoSaid : Prop := blockPrimesUptoRow.holds Try.pinned (OpenSpec.upto blockPrimesSpec)

/-- 'chittylaw05.TagTurns', WHERE WHAT IT READS IS OF BULK AT MOST 1048576: true; the input reads as it did. -/
def tagTurnsUptoRow : OpenClaim := { program := "ytjdlgbkpdfaloaa", sum := "756a63649af43d43926cbaa754440a313fef72a334b3f7b55477a4db62a9e0e2", func := "chitty/chittylaw05.TagTurns", spec := "tagTurns", apart := false, narrowed := true }
def TagTurnsUptoSaid : Prop := tagTurnsUptoRow.holds Try.pinned (OpenSpec.upto tagTurnsSpec)

/-- 'chittylaw05.TagTells', WHERE WHAT IT READS IS OF BULK AT MOST 1048576: true; the input reads as it did. -/
def tagTellsUptoRow : OpenClaim := { program := "ytjdlgbkpdfaloaa", sum := "756a63649af43d43926cbaa754440a313fef72a334b3f7b55477a4db62a9e0e2", func := "chitty/chittylaw05.TagTells", spec := "tagTells", apart := false, narrowed := true }
def TagTellsUptoSaid : Prop := tagTellsUptoRow.holds Try.pinned (OpenSpec.upto tagTellsSpec)

/-- 'chittylaw08.VarintTells', WHERE WHAT IT READS IS OF BULK AT MOST 1048576: true; the input reads as it did. -/
def varintTellsUptoRow : OpenClaim := { program := "ytjdlgbkpdfaloaa", sum := "756a63649af43d43926cbaa754440a313fef72a334b3f7b55477a4db62a9e0e2", func := "chitty/chittylaw08.VarintTells", spec := "varintTells", recurses := true, apart := false, narrowed := true }
def VarintTellsUptoSaid : Prop := varintTellsUptoRow.holds Try.pinned (OpenSpec.upto varintTellsSpec)

/-- 'chittylaw08.VarintBack', WHERE WHAT IT READS IS OF BULK AT MOST 1048576: true; the input reads as it did. -/
def varintBackUptoRow : OpenClaim := { program := "ytjdlgbkpdfaloaa", sum := "756a63649af43d43926cbaa754440a313fef72a334b3f7b55477a4db62a9e0e2", func := "chitty/chittylaw08.VarintBack", spec := "varintBack", apart := false, narrowed := true }
def VarintBackUptoSaid : Prop := varintBackUptoRow.holds Try.pinned (OpenSpec.upto varintBackSpec)

/-- 'chittylaw02.BlockRows', WHERE WHAT IT READS IS OF BULK AT MOST 1048576: true; the input reads as it did. -/
def blockRowsUptoRow : OpenClaim := { program := "ytjdlgbkpdfaloaa", sum := "756a63649af43d43926cbaa754440a313fef72a334b3f7b55477a4db62a9e0e2", func := "chitty/chittylaw02.BlockRows", spec := "blockRows", apart := false, narrowed := true }
def BlockRowsUptoSaid : Prop := blockRowsUptoRow.holds Try.pinned (OpenSpec.upto blockRowsSpec)

/-- 'chittylaw05.TagTexts', WHERE WHAT IT READS IS OF BULK AT MOST 1048576: true; the input reads as it did. -/
def tagTextsUptoRow : OpenClaim := { program := "ytjdlgbkpdfaloaa", sum := "756a63649af43d43926cbaa754440a313fef72a334b3f7b55477a4db62a9e0e2", func := "chitty/chittylaw05.TagTexts", spec := "tagTexts", inPlace := ["internal/bytealg.IndexByteString"], apart := false, narrowed := true }
def TagTextsUptoSaid : Prop := tagTextsUptoRow.holds Try.pinned (OpenSpec.upto tagTextsSpec)

/-- 'chittylaw09.FieldTells', WHERE WHAT IT READS IS OF BULK AT MOST 1048576: true; the input reads as it did. -/
def fieldTellsUptoRow : OpenClaim := { program := "ytjdlgbkpdfaloaa", sum := "756a63649af43d43926cbaa754440a313fef72a334b3f7b55477a4db62a9e0e2", func := "chitty/chittylaw09.FieldTells", spec := "fieldTells", recurses := true, apart := false, narrowed := true }
def FieldTellsUptoSaid : Prop := fieldTellsUptoRow.holds Try.pinned (OpenSpec.upto fieldTellsSpec)

/-- 'chittylaw09.FieldBack', WHERE WHAT IT READS IS OF BULK AT MOST 1048576: true; the input reads as it did. -/
def fieldBackUptoRow : OpenClaim := { program := "ytjdlgbkpdfaloaa", sum := "756a63649af43d43926cbaa754440a313fef72a334b3f7b55477a4db62a9e0e2", func := "chitty/chittylaw09.FieldBack", spec := "fieldBack", apart := false, narrowed := true }
def FieldBackUptoSaid : Prop := fieldBackUptoRow.holds Try.pinned (OpenSpec.upto fieldBackSpec)

end Rows
end Go.Proofs.Ytjdlgbkpdfaloaa
