/-
  No cell of these rows narrows 'for every input' (looked for: loops, veiled, ifaces, maps, wideKeys, modest, calm, conditions, laid).
  DERIVED. THE GIVEN ROWS OF THIS SEAT. 4 by the template 'for every input the law returns true; each argument reads behind the call as it read before'; 0 by the template 'total and deterministic' (their statements: YtbhlolmglieehaaTotals.lean).
  GIVEN WITH THE SEED: the statements are not yours to turn. If you find one false, say at which input.
  Laid BY PROGRAM, IN A SANDBOX (cutbox-rows.mjs): the forced cells as the released guide's own fill.sh prints them over the translation 475b1a0eeec70a28… (all of the seat's roots in one cut). By AI agents, Wed Nov 11 2026. No macro, syntax, notation, axiom, sorry.
-/
import Derived.Test.YtbhlolmglieehaaChecked
import GoSem.Claim
import GoSem.ClaimJoined
import GoSem.ClaimMapViews
import Derived.JoinedTies
import Derived.KernelRfl
namespace Go.Proofs.Ytbhlolmglieehaa
/- THE CELL 'sum', in the pinned program and in every row, IS THE sha256 OF THE DUMP (.gsa) THAT YtbhlolmglieehaaProg.lean LOADS. Nothing in Lean hashes anything: it is a label: what it is worth is what the hold of that sum in a sandbox is worth. -/
noncomputable def Try.pinned : Pinned := { name := "ytbhlolmglieehaa", sum := "475b1a0eeec70a28e096efee5629da6971cf08bdd7f9cfb5caa655f26313f7fa", checked := Try.checked }
namespace Rows
def none {H : Type} : Left H := { results := [], args := [] }

/-- 'farrierlaw04.LogLong': WHATEVER THE INPUT: true; the input reads as it did. -/
def logLongSpec : ChangeSpec := { name := "logLong", fn := fun _ => fun
  | [d1, d2] => { results := [.lit (.bool true)], args := [d1, d2] }
  | _ => none }
def logLongRow : OpenClaim := { program := "ytbhlolmglieehaa", sum := "475b1a0eeec70a28e096efee5629da6971cf08bdd7f9cfb5caa655f26313f7fa", func := "farrier/farrierlaw04.LogLong", spec := "logLong", apart := false }
def LogLongSaid : Prop := logLongRow.holds Try.pinned (OpenSpec.ofChange logLongSpec)

/-- ITS FALSE NEIGHBOUR: 'it returns false'. Refute it at one input. -/
def logLongWrong : ChangeSpec := { name := "logLong", fn := fun _ => fun
  | [d1, d2] => { results := [.lit (.bool false)], args := [d1, d2] }
  | _ => none }
def LogLongWrongFalsely : Prop := logLongRow.holds Try.pinned (OpenSpec.ofChange logLongWrong)

/-- 'farrierlaw04.LogAgain': WHATEVER THE INPUT: true; the input reads as it did. -/
def logAgainSpec : ChangeSpec := { name := "logAgain", fn := fun _ => fun
  | [d1, d2] => { results := [.lit (.bool true)], args := [d1, d2] }
  | _ => none }
def logAgainRow : OpenClaim := { program := "ytbhlolmglieehaa", sum := "475b1a0eeec70a28e096efee5629da6971cf08bdd7f9cfb5caa655f26313f7fa", func := "farrier/farrierlaw04.LogAgain", spec := "logAgain", apart := false }
def LogAgainSaid : Prop := logAgainRow.holds Try.pinned (OpenSpec.ofChange logAgainSpec)

/-- ITS FALSE NEIGHBOUR: 'it returns false'. Refute it at one input. -/
def logAgainWrong : ChangeSpec := { name := "logAgain", fn := fun _ => fun
  | [d1, d2] => { results := [.lit (.bool false)], args := [d1, d2] }
  | _ => none }
def LogAgainWrongFalsely : Prop := logAgainRow.holds Try.pinned (OpenSpec.ofChange logAgainWrong)

/-- 'farrierlaw04.LogTorn': WHATEVER THE INPUT: true; the input reads as it did. -/
def logTornSpec : ChangeSpec := { name := "logTorn", fn := fun _ => fun
  | [d1, d2, d3] => { results := [.lit (.bool true)], args := [d1, d2, d3] }
  | _ => none }
def logTornRow : OpenClaim := { program := "ytbhlolmglieehaa", sum := "475b1a0eeec70a28e096efee5629da6971cf08bdd7f9cfb5caa655f26313f7fa", func := "farrier/farrierlaw04.LogTorn", spec := "logTorn", apart := false }
def LogTornSaid : Prop := logTornRow.holds Try.pinned (OpenSpec.ofChange logTornSpec)

/-- ITS FALSE NEIGHBOUR: 'it returns false'. Refute it at one input. -/
def logTornWrong : ChangeSpec := { name := "logTorn", fn := fun _ => fun
  | [d1, d2, d3] => { results := [.lit (.bool false)], args := [d1, d2, d3] }
  | _ => none }
def LogTornWrongFalsely : Prop := logTornRow.holds Try.pinned (OpenSpec.ofChange logTornWrong)

/-- 'farrierlaw04.LogAnews': WHATEVER THE INPUT: true; the input reads as it did. -/
def logAnewsSpec : ChangeSpec := { name := "logAnews", fn := fun _ => fun
  | [d1, d2, d3] => { results := [.lit (.bool true)], args := [d1, d2, d3] }
  | _ => none }
def logAnewsRow : OpenClaim := { program := "ytbhlolmglieehaa", sum := "475b1a0eeec70a28e096efee5629da6971cf08bdd7f9cfb5caa655f26313f7fa", func := "farrier/farrierlaw04.LogAnews", spec := "logAnews", apart := false }
def LogAnewsSaid : Prop := logAnewsRow.holds Try.pinned (OpenSpec.ofChange logAnewsSpec)

/-- ITS FALSE NEIGHBOUR: 'it returns false'. Refute it at one input. -/
def logAnewsWrong : ChangeSpec := { name := "logAnews", fn := fun _ => fun
  | [d1, d2, d3] => { results := [.lit (.bool false)], args := [d1, d2, d3] }
  | _ => none }
def LogAnewsWrongFalsely : Prop := logAnewsRow.holds Try.pinned (OpenSpec.ofChange logAnewsWrong)

/- THE SECOND FORM. 'bulk': how many values and letters a reading holds, each counted each time it is reached (what is shared counts as often as it is met; a slice's spare places count too). A statement '..UptoSaid' is the law's where the arguments, and the package variables that the reading takes, are together of bulk at most 1048576: NARROWER than '..Said'. Prove '..Said' where nothing that the law and all that it calls make is longer than what came in: it says more and counts as full. Else prove '..UptoSaid'. A law counts once. -/
mutual
def uptoBulk {H : Type} : DataW H → Nat
  | .lit (.string bytes) => bytes.length + 1
  | .lit _ => 1
  | .nil => 1
  | .ptr d => uptoBulk d + 1
  | .slice elems spare => uptoBulkAll elems + uptoBulkAll spare + 1
  | .agg parts => uptoBulkAll parts + 1
  | .iface _ d => uptoBulk d + 1
  | .map entries => uptoBulkEntries entries + 1
  | .held _ => 1
def uptoBulkAll {H : Type} : List (DataW H) → Nat
  | [] => 0
  | d :: r => uptoBulk d + uptoBulkAll r
def uptoBulkEntries {H : Type} : List (Lit × DataW H) → Nat
  | [] => 0
  | x :: r => uptoBulkEntry x + uptoBulkEntries r
def uptoBulkEntry {H : Type} : Lit × DataW H → Nat
  | (.string bytes, d) => bytes.length + uptoBulk d + 1
  | (_, d) => uptoBulk d + 1
 end
def uptoSmall : (H : Type) → List (DataW H) → Bool := fun _ ds => decide (uptoBulkAll ds ≤ 1048576)
def OpenSpec.upto (s : _root_.Go.ChangeSpec) : _root_.Go.OpenSpec := { _root_.Go.OpenSpec.ofChange s with cond := some uptoSmall }

/-- 'farrierlaw04.LogLong', WHERE WHAT IT READS IS OF BULK AT MOST 1048576: true; the input reads as it did. -/
def logLongUptoRow : OpenClaim := { program := "ytbhlolmglieehaa", sum := "475b1a0eeec70a28e096efee5629da6971cf08bdd7f9cfb5caa655f26313f7fa", func := "farrier/farrierlaw04.LogLong", spec := "logLong", apart := false, narrowed := true }
def LogLongUptoSaid : Prop := logLongUptoRow.holds Try.pinned (OpenSpec.upto logLongSpec)

/-- 'farrierlaw04.LogAgain', WHERE WHAT IT READS IS OF BULK AT MOST 1048576: true; the input reads as it did. -/
def logAgainUptoRow : OpenClaim := { program := "ytbhlolmglieehaa", sum := "475b1a0eeec70a28e096efee5629da6971cf08bdd7f9cfb5caa655f26313f7fa", func := "farrier/farrierlaw04.LogAgain", spec := "logAgain", apart := false, narrowed := true }
def LogAgainUptoSaid : Prop := logAgainUptoRow.holds Try.pinned (OpenSpec.upto logAgainSpec)

/-- 'farrierlaw04.LogTorn', WHERE WHAT IT READS IS OF BULK AT MOST 1048576: true; the input reads as it did. -/
def logTornUptoRow : OpenClaim := { program := "ytbhlolmglieehaa", sum := "475b1a0eeec70a28e096efee5629da6971cf08bdd7f9cfb5caa655f26313f7fa", func := "farrier/farrierlaw04.LogTorn", spec := "logTorn", apart := false, narrowed := true }
def LogTornUptoSaid : Prop := logTornUptoRow.holds Try.pinned (OpenSpec.upto logTornSpec)

/-- 'farrierlaw04.LogAnews', WHERE WHAT IT READS IS OF BULK AT MOST 1048576: true; the input reads as it did. -/
def logAnewsUptoRow : OpenClaim := { program := "ytbhlolmglieehaa", sum := "475b1a0eeec70a28e096efee5629da6971cf08bdd7f9cfb5caa655f26313f7fa", func := "farrier/farrierlaw04.LogAnews", spec := "logAnews", apart := false, narrowed := true }
def LogAnewsUptoSaid : Prop := logAnewsUptoRow.holds Try.pinned (OpenSpec.upto logAnewsSpec)

end Rows
end Go.Proofs.Ytbhlolmglieehaa
