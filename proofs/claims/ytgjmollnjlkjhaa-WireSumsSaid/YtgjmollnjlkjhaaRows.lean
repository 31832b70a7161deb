/-
  No cell of these rows narrows 'for every input' (looked for: loops, veiled, ifaces, maps, wideKeys, modest, calm, conditions, laid).
  DERIVED. THE GIVEN ROWS OF THIS SEAT. 8 by the template 'for every input the law returns true; each argument reads behind the call as it read before'; 0 by the template 'total and deterministic' (their statements: YtgjmollnjlkjhaaTotals.lean).
  GIVEN WITH THE SEED: the statements are not yours to turn. If you find one false, say at which input.
  Laid BY PROGRAM, IN A SANDBOX (cutbox-rows.mjs): the forced cells as the released guide's own fill.sh prints them over the translation 80ee8d4144c9f2cd… (all of the seat's roots in one cut). By AI agents, Wed Nov 11 2026. No macro, syntax, notation, axiom, sorry.
-/
import Derived.Test.YtgjmollnjlkjhaaChecked
import GoSem.Claim
import GoSem.ClaimJoined
import GoSem.ClaimMapViews
import Derived.JoinedTies
import Derived.KernelRfl
namespace Go.Proofs.Ytgjmollnjlkjhaa
/- THE CELL 'sum', in the pinned program and in every row, IS THE sha256 OF THE DUMP (.gsa) THAT YtgjmollnjlkjhaaProg.lean LOADS. Nothing in Lean hashes anything: it is a label: what it is worth is what the hold of that sum in a sandbox is worth. -/
noncomputable def Try.pinned : Pinned := { name := "ytgjmollnjlkjhaa", sum := "80ee8d4144c9f2cd41b389c5bbe27c65247e5d0650956d0b2f86434f6acea61c", checked := Try.checked }
namespace Rows
def none {H : Type} : Left H := { results := [], args := [] }

/-- 'endonymlaw1.WireUints': WHATEVER THE INPUT: true; the input reads as it did. -/
def wireUintsSpec : ChangeSpec := { name := "wireUints", fn := fun _ => fun
  | [d1, d2, d3] => { results := [.lit (.bool true)], args := [d1, d2, d3] }
  | _ => none }
def wireUintsRow : OpenClaim := { program := "ytgjmollnjlkjhaa", sum := "80ee8d4144c9f2cd41b389c5bbe27c65247e5d0650956d0b2f86434f6acea61c", func := "endonym/endonymlaw1.WireUints", spec := "wireUints", apart := false }
def WireUintsSaid : Prop := wireUintsRow.holds Try.pinned (OpenSpec.ofChange wireUintsSpec)

/-- ITS FALSE NEIGHBOUR: 'it returns false'. Refute it at one input. -/
def wireUintsWrong : ChangeSpec := { name := "wireUints", fn := fun _ => fun
  | [d1, d2, d3] => { results := [.lit (.bool false)], args := [d1, d2, d3] }
  | _ => none }
def WireUintsWrongFalsely : Prop := wireUintsRow.holds Try.pinned (OpenSpec.ofChange wireUintsWrong)

/-- 'endonymlaw1.WireBits': WHATEVER THE INPUT: true; the input reads as it did. -/
def wireBitsSpec : ChangeSpec := { name := "wireBits", fn := fun _ => fun
  | [d1, d2, d3, d4, d5] => { results := [.lit (.bool true)], args := [d1, d2, d3, d4, d5] }
  | _ => none }
def wireBitsRow : OpenClaim := { program := "ytgjmollnjlkjhaa", sum := "80ee8d4144c9f2cd41b389c5bbe27c65247e5d0650956d0b2f86434f6acea61c", func := "endonym/endonymlaw1.WireBits", spec := "wireBits", apart := false }
def WireBitsSaid : Prop := wireBitsRow.holds Try.pinned (OpenSpec.ofChange wireBitsSpec)

/-- ITS FALSE NEIGHBOUR: 'it returns false'. Refute it at one input. -/
def wireBitsWrong : ChangeSpec := { name := "wireBits", fn := fun _ => fun
  | [d1, d2, d3, d4, d5] => { results := [.lit (.bool false)], args := [d1, d2, d3, d4, d5] }
  | _ => none }
def WireBitsWrongFalsely : Prop := wireBitsRow.holds Try.pinned (OpenSpec.ofChange wireBitsWrong)

/-- 'endonymlaw1.WireTexts': WHATEVER THE INPUT: true; the input reads as it did. -/
def wireTextsSpec : ChangeSpec := { name := "wireTexts", fn := fun _ => fun
  | [d1, d2, d3, d4] => { results := [.lit (.bool true)], args := [d1, d2, d3, d4] }
  | _ => none }
def wireTextsRow : OpenClaim := { program := "ytgjmollnjlkjhaa", sum := "80ee8d4144c9f2cd41b389c5bbe27c65247e5d0650956d0b2f86434f6acea61c", func := "endonym/endonymlaw1.WireTexts", spec := "wireTexts", apart := false }
def WireTextsSaid : Prop := wireTextsRow.holds Try.pinned (OpenSpec.ofChange wireTextsSpec)

/-- ITS FALSE NEIGHBOUR: 'it returns false'. Refute it at one input. -/
def wireTextsWrong : ChangeSpec := { name := "wireTexts", fn := fun _ => fun
  | [d1, d2, d3, d4] => { results := [.lit (.bool false)], args := [d1, d2, d3, d4] }
  | _ => none }
def WireTextsWrongFalsely : Prop := wireTextsRow.holds Try.pinned (OpenSpec.ofChange wireTextsWrong)

/-- 'endonymlaw1.WireShort': WHATEVER THE INPUT: true; the input reads as it did. -/
def wireShortSpec : ChangeSpec := { name := "wireShort", fn := fun _ => fun
  | [d1, d2, d3, d4] => { results := [.lit (.bool true)], args := [d1, d2, d3, d4] }
  | _ => none }
def wireShortRow : OpenClaim := { program := "ytgjmollnjlkjhaa", sum := "80ee8d4144c9f2cd41b389c5bbe27c65247e5d0650956d0b2f86434f6acea61c", func := "endonym/endonymlaw1.WireShort", spec := "wireShort", apart := false }
def WireShortSaid : Prop := wireShortRow.holds Try.pinned (OpenSpec.ofChange wireShortSpec)

/-- ITS FALSE NEIGHBOUR: 'it returns false'. Refute it at one input. -/
def wireShortWrong : ChangeSpec := { name := "wireShort", fn := fun _ => fun
  | [d1, d2, d3, d4] => { results := [.lit (.bool false)], args := [d1, d2, d3, d4] }
  | _ => none }
def WireShortWrongFalsely : Prop := wireShortRow.holds Try.pinned (OpenSpec.ofChange wireShortWrong)

/-- 'endonymlaw1.WireSums': WHATEVER THE INPUT: true; the input reads as it did. -/
def wireSumsSpec : ChangeSpec := { name := "wireSums", fn := fun _ => fun
  | [d1, d2] => { results := [.lit (.bool true)], args := [d1, d2] }
  | _ => none }
def wireSumsRow : OpenClaim := { program := "ytgjmollnjlkjhaa", sum := "80ee8d4144c9f2cd41b389c5bbe27c65247e5d0650956d0b2f86434f6acea61c", func := "endonym/endonymlaw1.WireSums", spec := "wireSums", apart := false }
def WireSumsSaid : Prop := wireSumsRow.holds Try.pinned (OpenSpec.ofChange wireSumsSpec)

/-- ITS FALSE NEIGHBOUR: 'it returns false'. Refute it at one input. -/
def wireSumsWrong : ChangeSpec := { name := "wireSums", fn := fun _ => fun
  | [d1, d2] => { results := [.lit (.bool false)], args := [d1, d2] }
  | _ => none }
def WireSumsWrongFalsely : Prop := wireSumsRow.holds Try.pinned (OpenSpec.ofChange wireSumsWrong)

/-- 'endonymlaw1.WireFloats': WHATEVER THE INPUT: true; the input reads as it did. -/
def wireFloatsSpec : ChangeSpec := { name := "wireFloats", fn := fun _ => fun
  | [d1, d2, d3] => { results := [.lit (.bool true)], args := [d1, d2, d3] }
  | _ => none }
def wireFloatsRow : OpenClaim := { program := "ytgjmollnjlkjhaa", sum := "80ee8d4144c9f2cd41b389c5bbe27c65247e5d0650956d0b2f86434f6acea61c", func := "endonym/endonymlaw1.WireFloats", spec := "wireFloats", inPlace := ["math.Float64frombits", "math.Float64bits"], apart := false }
def WireFloatsSaid : Prop := wireFloatsRow.holds Try.pinned (OpenSpec.ofChange wireFloatsSpec)

/-- ITS FALSE NEIGHBOUR: 'it returns false'. Refute it at one input. -/
def wireFloatsWrong : ChangeSpec := { name := "wireFloats", fn := fun _ => fun
  | [d1, d2, d3] => { results := [.lit (.bool false)], args := [d1, d2, d3] }
  | _ => none }
def WireFloatsWrongFalsely : Prop := wireFloatsRow.holds Try.pinned (OpenSpec.ofChange wireFloatsWrong)

/-- 'endonymlaw1.WireForth': WHATEVER THE INPUT: true; the input reads as it did. -/
def wireForthSpec : ChangeSpec := { name := "wireForth", fn := fun _ => fun
  | [d1, d2, d3] => { results := [.lit (.bool true)], args := [d1, d2, d3] }
  | _ => none }
def wireForthRow : OpenClaim := { program := "ytgjmollnjlkjhaa", sum := "80ee8d4144c9f2cd41b389c5bbe27c65247e5d0650956d0b2f86434f6acea61c", func := "endonym/endonymlaw1.WireForth", spec := "wireForth", inPlace := ["math.Float64frombits", "math.Float64bits"], apart := false }
def WireForthSaid : Prop := wireForthRow.holds Try.pinned (OpenSpec.ofChange wireForthSpec)

/-- ITS FALSE NEIGHBOUR: 'it returns false'. Refute it at one input. -/
def wireForthWrong : ChangeSpec := { name := "wireForth", fn := fun _ => fun
  | [d1, d2, d3] => { results := [.lit (.bool false)], args := [d1, d2, d3] }
  | _ => none }
def WireForthWrongFalsely : Prop := wireForthRow.holds Try.pinned (OpenSpec.ofChange wireForthWrong)

/-- 'endonymlaw1.WireBack': WHATEVER THE INPUT: true; the input reads as it did. -/
def wireBackSpec : ChangeSpec := { name := "wireBack", fn := fun _ => fun
  | [d1, d2, d3, d4, d5] => { results := [.lit (.bool true)], args := [d1, d2, d3, d4, d5] }
  | _ => none }
def wireBackRow : OpenClaim := { program := "ytgjmollnjlkjhaa", sum := "80ee8d4144c9f2cd41b389c5bbe27c65247e5d0650956d0b2f86434f6acea61c", func := "endonym/endonymlaw1.WireBack", spec := "wireBack", inPlace := ["math.Float64frombits", "math.Float64bits"], apart := false }
def WireBackSaid : Prop := wireBackRow.holds Try.pinned (OpenSpec.ofChange wireBackSpec)

/-- ITS FALSE NEIGHBOUR: 'it returns false'. Refute it at one input. -/
def wireBackWrong : ChangeSpec := { name := "wireBack", fn := fun _ => fun
  | [d1, d2, d3, d4, d5] => { results := [.lit (.bool false)], args := [d1, d2, d3, d4, d5] }
  | _ => none }
def WireBackWrongFalsely : Prop := wireBackRow.holds Try.pinned (OpenSpec.ofChange wireBackWrong)

/- THE SECOND FORM. 'bulk': how many values and letters a reading holds, each counted each time it is reached (what is shared counts as often as it is met; a slice's spare places count too). A statement '..UptoSaid' is the law's where the arguments, and the package variables that the reading takes, are together of bulk at most 1048576: NARROWER than '..Said'. Prove '..Said' where nothing that the law and all that it calls make is longer than what came in: it says more and counts as full. Else prove '..UptoSaid'. A law counts once. -/
mutual
def uptoBulk {H : Type} : DataW H → Nat
  | .lit (.string bytes) => bytes.length + 1
  | .lit _ => 1
  | .nil => 1
  | .ptr d => uptoBulk d + 1
  | .slice elems spare => uptoBulkAll elems + uptoBulkAll spare + 1
  | .agg parts => uptoBulkAll parts + 1
  | .iface _ d => uptoBulk d + 1
  | .map entries => uptoBulkEntries entries + 1
  | .held _ => 1
def uptoBulkAll {H : Type} : List (DataW H) → Nat
  | [] => 0
  | d :: r => uptoBulk d + uptoBulkAll r
def uptoBulkEntries {H : Type} : List (Lit × DataW H) → Nat
  | [] => 0
  | x :: r => uptoBulkEntry x + uptoBulkEntries r
def uptoBulkEntry {H : Type} : Lit × DataW H → Nat
  | (.string bytes, d) => bytes.length + uptoBulk d + 1
  | (_, d) => uptoBulk d + 1
 end
def uptoSmall : (H : Type) → List (DataW H) → Bool := fun _ ds => decide (uptoBulkAll ds ≤ 1048576)
def OpenSpec.upto (s : _root_.Go.ChangeSpec) : _root_.Go.OpenSpec := { _root_.Go.OpenSpec.ofChange s with cond := some uptoSmall }

/-- 'endonymlaw1.WireUints', WHERE WHAT IT READS IS OF BULK AT MOST 1048576: true; the input reads as it did. -/
def wireUintsUptoRow : OpenClaim := { program := "ytgjmollnjlkjhaa", sum := "80ee8d4144c9f2cd41b389c5bbe27c65247e5d0650956d0b2f86434f6acea61c", func := "endonym/endonymlaw1.WireUints", spec := "wireUints", apart := false, narrowed := true }
def WireUintsUptoSaid : Prop := wireUintsUptoRow.holds Try.pinned (OpenSpec.upto wireUintsSpec)

/-- 'endonymlaw1.WireBits', WHERE WHAT IT READS IS OF BULK AT MOST 1048576: true; the input reads as it did. -/
def wireBitsUptoRow : OpenClaim := { program := "ytgjmollnjlkjhaa", sum := "80ee8d4144c9f2cd41b389c5bbe27c65247e5d0650956d0b2f86434f6acea61c", func := "endonym/endonymlaw1.WireBits", spec := "wireBits", apart := false, narrowed := true }
def WireBitsUptoSaid : Prop := wireBitsUptoRow.holds Try.pinned (OpenSpec.upto wireBitsSpec)

/-- 'endonymlaw1.WireTexts', WHERE WHAT IT READS IS OF BULK AT MOST 1048576: true; the input reads as it did. -/
def wireTextsUptoRow : OpenClaim := { program := "ytgjmollnjlkjhaa", sum := "80ee8d4144c9f2cd41b389c5bbe27c65247e5d0650956d0b2f86434f6acea61c", func := "endonym/endonymlaw1.WireTexts", spec := "wireTexts", apart := false, narrowed := true }
def WireTextsUptoSaid : Prop := wireTextsUptoRow.holds Try.pinned (OpenSpec.upto wireTextsSpec)

/-- 'endonymlaw1.WireShort', WHERE WHAT IT READS IS OF BULK AT MOST 1048576: true; the input reads as it did. -/
def wireShortUptoRow : OpenClaim := { program := "ytgjmollnjlkjhaa", sum := "80ee8d4144c9f2cd41b389c5bbe27c65247e5d0650956d0b2f86434f6acea61c", func := "endonym/endonymlaw1.WireShort", spec := "wireShort", apart := false, narrowed := true }
def WireShortUptoSaid : Prop := wireShortUptoRow.holds Try.pinned (OpenSpec.upto wireShortSpec)

/-- 'endonymlaw1.WireSums', WHERE WHAT IT READS IS OF BULK AT MOST 1048576: true; the input reads as it did. -/
def wireSumsUptoRow : OpenClaim := { program := "ytgjmollnjlkjhaa", sum := "80ee8d4144c9f2cd41b389c5bbe27c65247e5d0650956d0b2f86434f6acea61c", func := "endonym/endonymlaw1.WireSums", spec := "wireSums", apart := false, narrowed := true }
def WireSumsUptoSaid : Prop := wireSumsUptoRow.holds Try.pinned (OpenSpec.upto wireSumsSpec)

/-- 'endonymlaw1.WireFloats', WHERE WHAT IT READS IS OF BULK AT MOST 1048576: true; the input reads as it did. -/
def wireFloatsUptoRow : OpenClaim := { program := "ytgjmollnjlkjhaa", sum := "80ee8d4144c9f2cd41b389c5bbe27c65247e5d0650956d0b2f86434f6acea61c", func := "endonym/endonymlaw1.WireFloats", spec := "wireFloats", inPlace := ["math.Float64frombits", "math.Float64bits"], apart := false, narrowed := true }
def WireFloatsUptoSaid : Prop := wireFloatsUptoRow.holds Try.pinned (OpenSpec.upto wireFloatsSpec)

/-- 'endonymlaw1.WireForth', WHERE WHAT IT READS IS OF BULK AT MOST 1048576: true; the input reads as it did. -/
def wireForthUptoRow : OpenClaim := { program := "ytgjmollnjlkjhaa", sum := "80ee8d4144c9f2cd41b389c5bbe27c65247e5d0650956d0b2f86434f6acea61c", func := "endonym/endonymlaw1.WireForth", spec := "wireForth", inPlace := ["math.Float64frombits", "math.Float64bits"], apart := false, narrowed := true }
def WireForthUptoSaid : Prop := wireForthUptoRow.holds Try.pinned (OpenSpec.upto wireForthSpec)

/-- 'endonymlaw1.WireBack', WHERE WHAT IT READS IS OF BULK AT MOST 1048576: true; the input reads as it did. -/
def wireBackUptoRow : OpenClaim := { program := "ytgjmollnjlkjhaa", sum := "80ee8d4144c9f2cd41b389c5bbe27c65247e5d0650956d0b2f86434f6acea61c", func := "endonym/endonymlaw1.WireBack", spec := "wireBack", inPlace := ["math.Float64frombits", "math.Float64bits"], apart := false, narrowed := true }
def WireBackUptoSaid : Prop := wireBackUptoRow.holds Try.pinned (OpenSpec.upto wireBackSpec)

end Rows
end Go.Proofs.Ytgjmollnjlkjhaa
