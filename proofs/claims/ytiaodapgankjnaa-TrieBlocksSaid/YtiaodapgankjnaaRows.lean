/-
  No cell of these rows narrows 'for every input' (looked for: loops, veiled, ifaces, maps, wideKeys, modest, calm, conditions, laid).
  DERIVED. THE GIVEN ROWS OF THIS SEAT. 5 by the template 'for every input the law returns true; each argument reads behind the call as it read before'; 0 by the template 'total and deterministic' (their statements: YtiaodapgankjnaaTotals.lean).
  GIVEN WITH THE SEED: the statements are not yours to turn. If you find one false, say at which input.
  Laid BY PROGRAM, IN A SANDBOX (cutbox-rows.mjs): the forced cells as the released guide's own fill.sh prints them over the translation 0ee20d9e364b0747… (all of the seat's roots in one cut). By AI agents, Wed Nov 11 2026. No macro, syntax, notation, axiom, sorry.
-/
import Derived.Test.YtiaodapgankjnaaChecked
import GoSem.Claim
import GoSem.ClaimJoined
import GoSem.ClaimMapViews
import Derived.JoinedTies
import Derived.KernelRfl
namespace Go.Proofs.Ytiaodapgankjnaa
/- THE CELL 'sum', in the pinned program and in every row, IS THE sha256 OF THE DUMP (.gsa) THAT YtiaodapgankjnaaProg.lean LOADS. Nothing in Lean hashes anything: it is a label: what it is worth is what the hold of that sum in a sandbox is worth. -/
noncomputable def Try.pinned : Pinned := { name := "ytiaodapgankjnaa", sum := "0ee20d9e364b07478512eef3ef9b55a8815da0675ab80ec50eb1375a5a71ea7d", checked := Try.checked }
namespace Rows
def none {H : Type} : Left H := { results := [], args := [] }

/-- 'endonymlaw4.TrieBuilds': WHATEVER THE INPUT: true; the input reads as it did. -/
def trieBuildsSpec : ChangeSpec := { name := "trieBuilds", fn := fun _ => fun
  | [d1, d2, d3] => { results := [.lit (.bool true)], args := [d1, d2, d3] }
  | _ => none }
def trieBuildsRow : OpenClaim := { program := "ytiaodapgankjnaa", sum := "0ee20d9e364b07478512eef3ef9b55a8815da0675ab80ec50eb1375a5a71ea7d", func := "endonym/endonymlaw4.TrieBuilds", spec := "trieBuilds", plainKeys := false, apart := false }
def TrieBuildsSaid : Prop := trieBuildsRow.holds Try.pinned (OpenSpec.ofChange trieBuildsSpec)

/-- ITS FALSE NEIGHBOUR: 'it returns false'. Refute it at one input. -/
def trieBuildsWrong : ChangeSpec := { name := "trieBuilds", fn := fun _ => fun
  | [d1, d2, d3] => { results := [.lit (.bool false)], args := [d1, d2, d3] }
  | _ => none }
def TrieBuildsWrongFalsely : Prop := trieBuildsRow.holds Try.pinned (OpenSpec.ofChange trieBuildsWrong)

/-- 'endonymlaw4.TrieSame': WHATEVER THE INPUT: true; the input reads as it did. -/
def trieSameSpec : ChangeSpec := { name := "trieSame", fn := fun _ => fun
  | [d1, d2, d3, d4] => { results := [.lit (.bool true)], args := [d1, d2, d3, d4] }
  | _ => none }
def trieSameRow : OpenClaim := { program := "ytiaodapgankjnaa", sum := "0ee20d9e364b07478512eef3ef9b55a8815da0675ab80ec50eb1375a5a71ea7d", func := "endonym/endonymlaw4.TrieSame", spec := "trieSame", plainKeys := false, apart := false }
def TrieSameSaid : Prop := trieSameRow.holds Try.pinned (OpenSpec.ofChange trieSameSpec)

/-- ITS FALSE NEIGHBOUR: 'it returns false'. Refute it at one input. -/
def trieSameWrong : ChangeSpec := { name := "trieSame", fn := fun _ => fun
  | [d1, d2, d3, d4] => { results := [.lit (.bool false)], args := [d1, d2, d3, d4] }
  | _ => none }
def TrieSameWrongFalsely : Prop := trieSameRow.holds Try.pinned (OpenSpec.ofChange trieSameWrong)

/-- 'endonymlaw4.TrieBlocks': WHATEVER THE INPUT: true; the input reads as it did. -/
def trieBlocksSpec : ChangeSpec := { name := "trieBlocks", fn := fun _ => fun
  | [d1, d2, d3] => { results := [.lit (.bool true)], args := [d1, d2, d3] }
  | _ => none }
def trieBlocksRow : OpenClaim := { program := "ytiaodapgankjnaa", sum := "0ee20d9e364b07478512eef3ef9b55a8815da0675ab80ec50eb1375a5a71ea7d", func := "endonym/endonymlaw4.TrieBlocks", spec := "trieBlocks", plainKeys := false, apart := false }
def TrieBlocksSaid : Prop := trieBlocksRow.holds Try.pinned (OpenSpec.ofChange trieBlocksSpec)

/-- ITS FALSE NEIGHBOUR: 'it returns false'. Refute it at one input. -/
def trieBlocksWrong : ChangeSpec := { name := "trieBlocks", fn := fun _ => fun
  | [d1, d2, d3] => { results := [.lit (.bool false)], args := [d1, d2, d3] }
  | _ => none }
def TrieBlocksWrongFalsely : Prop := trieBlocksRow.holds Try.pinned (OpenSpec.ofChange trieBlocksWrong)

/-- 'endonymlaw4.TrieCut': WHATEVER THE INPUT: true; the input reads as it did. -/
def trieCutSpec : ChangeSpec := { name := "trieCut", fn := fun _ => fun
  | [d1, d2, d3] => { results := [.lit (.bool true)], args := [d1, d2, d3] }
  | _ => none }
def trieCutRow : OpenClaim := { program := "ytiaodapgankjnaa", sum := "0ee20d9e364b07478512eef3ef9b55a8815da0675ab80ec50eb1375a5a71ea7d", func := "endonym/endonymlaw4.TrieCut", spec := "trieCut", plainKeys := false, apart := false }
def TrieCutSaid : Prop := trieCutRow.holds Try.pinned (OpenSpec.ofChange trieCutSpec)

/-- ITS FALSE NEIGHBOUR: 'it returns false'. Refute it at one input. -/
def trieCutWrong : ChangeSpec := { name := "trieCut", fn := fun _ => fun
  | [d1, d2, d3] => { results := [.lit (.bool false)], args := [d1, d2, d3] }
  | _ => none }
def TrieCutWrongFalsely : Prop := trieCutRow.holds Try.pinned (OpenSpec.ofChange trieCutWrong)

/-- 'endonymlaw4.TrieAgain': WHATEVER THE INPUT: true; the input reads as it did. -/
def trieAgainSpec : ChangeSpec := { name := "trieAgain", fn := fun _ => fun
  | [d1, d2, d3] => { results := [.lit (.bool true)], args := [d1, d2, d3] }
  | _ => none }
def trieAgainRow : OpenClaim := { program := "ytiaodapgankjnaa", sum := "0ee20d9e364b07478512eef3ef9b55a8815da0675ab80ec50eb1375a5a71ea7d", func := "endonym/endonymlaw4.TrieAgain", spec := "trieAgain", plainKeys := false, apart := false }
def TrieAgainSaid : Prop := trieAgainRow.holds Try.pinned (OpenSpec.ofChange trieAgainSpec)

/-- ITS FALSE NEIGHBOUR: 'it returns false'. Refute it at one input. -/
def trieAgainWrong : ChangeSpec := { name := "trieAgain", fn := fun _ => fun
  | [d1, d2, d3] => { results := [.lit (.bool false)], args := [d1, d2, d3] }
  | _ => none }
def TrieAgainWrongFalsely : Prop := trieAgainRow.holds Try.pinned (OpenSpec.ofChange trieAgainWrong)

/- THE SECOND FORM. 'bulk': how many values and letters a reading holds, each counted each time it is reached (what is shared counts as often as it is met; a slice's spare places count too). A statement '..UptoSaid' is the law's where the arguments, and the package variables that the reading takes, are together of bulk at most 1048576: NARROWER than '..Said'. Prove '..Said' where nothing that the law and all that it calls make is longer than what came in: it says more and counts as full. Else prove '..UptoSaid'. A law counts once. -/
mutual
def uptoBulk {H : Type} : DataW H → Nat
  | .lit (.string bytes) => bytes.length + 1
  | .lit _ => 1
  | .nil => 1
  | .ptr d => uptoBulk d + 1
  | .slice elems spare => uptoBulkAll elems + uptoBulkAll spare + 1
  | .agg parts => uptoBulkAll parts + 1
  | .iface _ d => uptoBulk d + 1
  | .map entries => uptoBulkEntries entries + 1
  | .held _ => 1
def uptoBulkAll {H : Type} : List (DataW H) → Nat
  | [] => 0
  | d :: r => uptoBulk d + uptoBulkAll r
def uptoBulkEntries {H : Type} : List (Lit × DataW H) → Nat
  | [] => 0
  | x :: r => uptoBulkEntry x + uptoBulkEntries r
def uptoBulkEntry {H : Type} : Lit × DataW H → Nat
  | (.string bytes, d) => bytes.length + uptoBulk d + 1
  | (_, d) => uptoBulk d + 1
 end
def uptoSmall : (H : Type) → List (DataW H) → Bool := fun _ ds => decide (uptoBulkAll ds ≤ 1048576)
def OpenSpec.upto (s : _root_.Go.ChangeSpec) : _root_.Go.OpenSpec := { _root_.Go.OpenSpec.ofChange s with cond := some uptoSmall }

/-- 'endonymlaw4.TrieBuilds', WHERE WHAT IT READS IS OF BULK AT MOST 1048576: true; the input reads as it did. -/
def trieBuildsUptoRow : OpenClaim := { program := "ytiaodapgankjnaa", sum := "0ee20d9e364b07478512eef3ef9b55a8815da0675ab80ec50eb1375a5a71ea7d", func := "endonym/endonymlaw4.TrieBuilds", spec := "trieBuilds", plainKeys := false, apart := false, narrowed := true }
def TrieBuildsUptoSaid : Prop := trieBuildsUptoRow.holds Try.pinned (OpenSpec.upto trieBuildsSpec)

/-- 'endonymlaw4.TrieSame', WHERE WHAT IT READS IS OF BULK AT MOST 1048576: true; the input reads as it did. -/
def trieSameUptoRow : OpenClaim := { program := "ytiaodapgankjnaa", sum := "0ee20d9e364b07478512eef3ef9b55a8815da0675ab80ec50eb1375a5a71ea7d", func := "endonym/endonymlaw4.TrieSame", spec := "trieSame", plainKeys := false, apart := false, narrowed := true }
def TrieSameUptoSaid : Prop := trieSameUptoRow.holds Try.pinned (OpenSpec.upto trieSameSpec)

/-- 'endonymlaw4.TrieBlocks', WHERE WHAT IT READS IS OF BULK AT MOST 1048576: true; the input reads as it did. -/
def trieBlocksUptoRow : OpenClaim := { program := "ytiaodapgankjnaa", sum := "0ee20d9e364b07478512eef3ef9b55a8815da0675ab80ec50eb1375a5a71ea7d", func := "endonym/endonymlaw4.TrieBlocks", spec := "trieBlocks", plainKeys := false, apart := false, narrowed := true }
def TrieBlocksUptoSaid : Prop := trieBlocksUptoRow.holds Try.pinned (OpenSpec.upto trieBlocksSpec)

/-- 'endonymlaw4.TrieCut', WHERE WHAT IT READS IS OF BULK AT MOST 1048576: true; the input reads as it did. -/
def trieCutUptoRow : OpenClaim := { program := "ytiaodapgankjnaa", sum := "0ee20d9e364b07478512eef3ef9b55a8815da0675ab80ec50eb1375a5a71ea7d", func := "endonym/endonymlaw4.TrieCut", spec := "trieCut", plainKeys := false, apart := false, narrowed := true }
def TrieCutUptoSaid : Prop := trieCutUptoRow.holds Try.pinned (OpenSpec.upto trieCutSpec)

/-- 'endonymlaw4.TrieAgain', WHERE WHAT IT READS IS OF BULK AT MOST 1048576: true; the input reads as it did. -/
def trieAgainUptoRow : OpenClaim := { program := "ytiaodapgankjnaa", sum := "0ee20d9e364b07478512eef3ef9b55a8815da0675ab80ec50eb1375a5a71ea7d", func := "endonym/endonymlaw4.TrieAgain", spec := "trieAgain", plainKeys := false, apart := false, narrowed := true }
def TrieAgainUptoSaid : Prop := trieAgainUptoRow.holds Try.pinned (OpenSpec.upto trieAgainSpec)

end Rows
end Go.Proofs.Ytiaodapgankjnaa
