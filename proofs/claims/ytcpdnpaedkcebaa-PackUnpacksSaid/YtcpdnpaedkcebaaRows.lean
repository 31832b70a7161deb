/-
  No cell of these rows narrows 'for every input' (looked for: loops, veiled, ifaces, maps, wideKeys, modest, calm, conditions, laid).
  DERIVED. THE GIVEN ROWS OF THIS SEAT. 11 by the template 'for every input the law returns true; each argument reads behind the call as it read before'; 0 by the template 'total and deterministic' (their statements: YtcpdnpaedkcebaaTotals.lean).
  GIVEN WITH THE SEED: the statements are not yours to turn. If you find one false, say at which input.
  Laid BY PROGRAM, IN A SANDBOX (cutbox-rows.mjs): the forced cells as the released guide's own fill.sh prints them over the translation 10ea102973aa564d… (all of the seat's roots in one cut). By AI agents, Wed Nov 11 2026. No macro, syntax, notation, axiom, sorry.
-/
import Derived.Test.YtcpdnpaedkcebaaChecked
import GoSem.Claim
import GoSem.ClaimJoined
import GoSem.ClaimMapViews
import Derived.JoinedTies
import Derived.KernelRfl
namespace Go.Proofs.Ytcpdnpaedkcebaa
/- THE CELL 'sum', in the pinned program and in every row, IS THE sha256 OF THE DUMP (.gsa) THAT YtcpdnpaedkcebaaProg.lean LOADS. Nothing in Lean hashes anything: it is a label: what it is worth is what the hold of that sum in a sandbox is worth. -/
noncomputable def Try.pinned : Pinned := { name := "ytcpdnpaedkcebaa", sum := "10ea102973aa564d134397246f7546d8c52936b464369072b72de9bda5f7fc3c", checked := Try.checked }
namespace Rows
def none {H : Type} : Left H := { results := [], args := [] }

/-- 'endonymlaw7.CanonOpens': WHATEVER THE INPUT: true; the input reads as it did. -/
def canonOpensSpec : ChangeSpec := { name := "canonOpens", fn := fun _ => fun
  | [d1, d2] => { results := [.lit (.bool true)], args := [d1, d2] }
  | _ => none }
def canonOpensRow : OpenClaim := { program := "ytcpdnpaedkcebaa", sum := "10ea102973aa564d134397246f7546d8c52936b464369072b72de9bda5f7fc3c", func := "endonym/endonymlaw7.CanonOpens", spec := "canonOpens", inPlace := ["math.Float64bits"], unfollowed := true, recurses := true, plainKeys := false, apart := false }
def CanonOpensSaid : Prop := canonOpensRow.holds Try.pinned (OpenSpec.ofChange canonOpensSpec)

/-- ITS FALSE NEIGHBOUR: 'it returns false'. Refute it at one input. -/
def canonOpensWrong : ChangeSpec := { name := "canonOpens", fn := fun _ => fun
  | [d1, d2] => { results := [.lit (.bool false)], args := [d1, d2] }
  | _ => none }
def CanonOpensWrongFalsely : Prop := canonOpensRow.holds Try.pinned (OpenSpec.ofChange canonOpensWrong)

/-- 'endonymlaw7.CanonFulls': WHATEVER THE INPUT: true; the input reads as it did. -/
def canonFullsSpec : ChangeSpec := { name := "canonFulls", fn := fun _ => fun
  | [d1, d2] => { results := [.lit (.bool true)], args := [d1, d2] }
  | _ => none }
def canonFullsRow : OpenClaim := { program := "ytcpdnpaedkcebaa", sum := "10ea102973aa564d134397246f7546d8c52936b464369072b72de9bda5f7fc3c", func := "endonym/endonymlaw7.CanonFulls", spec := "canonFulls", inPlace := ["math.Float64bits"], unfollowed := true, recurses := true, plainKeys := false, apart := false }
def CanonFullsSaid : Prop := canonFullsRow.holds Try.pinned (OpenSpec.ofChange canonFullsSpec)

/-- ITS FALSE NEIGHBOUR: 'it returns false'. Refute it at one input. -/
def canonFullsWrong : ChangeSpec := { name := "canonFulls", fn := fun _ => fun
  | [d1, d2] => { results := [.lit (.bool false)], args := [d1, d2] }
  | _ => none }
def CanonFullsWrongFalsely : Prop := canonFullsRow.holds Try.pinned (OpenSpec.ofChange canonFullsWrong)

/-- 'endonymlaw7.CanonChecks': WHATEVER THE INPUT: true; the input reads as it did. -/
def canonChecksSpec : ChangeSpec := { name := "canonChecks", fn := fun _ => fun
  | [d] => { results := [.lit (.bool true)], args := [d] }
  | _ => none }
def canonChecksRow : OpenClaim := { program := "ytcpdnpaedkcebaa", sum := "10ea102973aa564d134397246f7546d8c52936b464369072b72de9bda5f7fc3c", func := "endonym/endonymlaw7.CanonChecks", spec := "canonChecks", inPlace := ["math.Float64bits"], unfollowed := true, recurses := true, plainKeys := false, apart := false }
def CanonChecksSaid : Prop := canonChecksRow.holds Try.pinned (OpenSpec.ofChange canonChecksSpec)

/-- ITS FALSE NEIGHBOUR: 'it returns false'. Refute it at one input. -/
def canonChecksWrong : ChangeSpec := { name := "canonChecks", fn := fun _ => fun
  | [d] => { results := [.lit (.bool false)], args := [d] }
  | _ => none }
def CanonChecksWrongFalsely : Prop := canonChecksRow.holds Try.pinned (OpenSpec.ofChange canonChecksWrong)

/-- 'endonymlaw7.CanonLeaves': WHATEVER THE INPUT: true; the input reads as it did. -/
def canonLeavesSpec : ChangeSpec := { name := "canonLeaves", fn := fun _ => fun
  | [d1, d2] => { results := [.lit (.bool true)], args := [d1, d2] }
  | _ => none }
def canonLeavesRow : OpenClaim := { program := "ytcpdnpaedkcebaa", sum := "10ea102973aa564d134397246f7546d8c52936b464369072b72de9bda5f7fc3c", func := "endonym/endonymlaw7.CanonLeaves", spec := "canonLeaves", inPlace := ["math.Float64bits"], unfollowed := true, recurses := true, plainKeys := false, apart := false }
def CanonLeavesSaid : Prop := canonLeavesRow.holds Try.pinned (OpenSpec.ofChange canonLeavesSpec)

/-- ITS FALSE NEIGHBOUR: 'it returns false'. Refute it at one input. -/
def canonLeavesWrong : ChangeSpec := { name := "canonLeaves", fn := fun _ => fun
  | [d1, d2] => { results := [.lit (.bool false)], args := [d1, d2] }
  | _ => none }
def CanonLeavesWrongFalsely : Prop := canonLeavesRow.holds Try.pinned (OpenSpec.ofChange canonLeavesWrong)

/-- 'endonymlaw7.CanonTurned': WHATEVER THE INPUT: true; the input reads as it did. -/
def canonTurnedSpec : ChangeSpec := { name := "canonTurned", fn := fun _ => fun
  | [d1, d2, d3] => { results := [.lit (.bool true)], args := [d1, d2, d3] }
  | _ => none }
def canonTurnedRow : OpenClaim := { program := "ytcpdnpaedkcebaa", sum := "10ea102973aa564d134397246f7546d8c52936b464369072b72de9bda5f7fc3c", func := "endonym/endonymlaw7.CanonTurned", spec := "canonTurned", inPlace := ["math.Float64bits"], unfollowed := true, recurses := true, plainKeys := false, apart := false }
def CanonTurnedSaid : Prop := canonTurnedRow.holds Try.pinned (OpenSpec.ofChange canonTurnedSpec)

/-- ITS FALSE NEIGHBOUR: 'it returns false'. Refute it at one input. -/
def canonTurnedWrong : ChangeSpec := { name := "canonTurned", fn := fun _ => fun
  | [d1, d2, d3] => { results := [.lit (.bool false)], args := [d1, d2, d3] }
  | _ => none }
def CanonTurnedWrongFalsely : Prop := canonTurnedRow.holds Try.pinned (OpenSpec.ofChange canonTurnedWrong)

/-- 'endonymlaw7.CanonOther': WHATEVER THE INPUT: true; the input reads as it did. -/
def canonOtherSpec : ChangeSpec := { name := "canonOther", fn := fun _ => fun
  | [d1, d2] => { results := [.lit (.bool true)], args := [d1, d2] }
  | _ => none }
def canonOtherRow : OpenClaim := { program := "ytcpdnpaedkcebaa", sum := "10ea102973aa564d134397246f7546d8c52936b464369072b72de9bda5f7fc3c", func := "endonym/endonymlaw7.CanonOther", spec := "canonOther", inPlace := ["math.Float64bits"], unfollowed := true, recurses := true, plainKeys := false, apart := false }
def CanonOtherSaid : Prop := canonOtherRow.holds Try.pinned (OpenSpec.ofChange canonOtherSpec)

/-- ITS FALSE NEIGHBOUR: 'it returns false'. Refute it at one input. -/
def canonOtherWrong : ChangeSpec := { name := "canonOther", fn := fun _ => fun
  | [d1, d2] => { results := [.lit (.bool false)], args := [d1, d2] }
  | _ => none }
def CanonOtherWrongFalsely : Prop := canonOtherRow.holds Try.pinned (OpenSpec.ofChange canonOtherWrong)

/-- 'endonymlaw8.PackPacks': WHATEVER THE INPUT: true; the input reads as it did. -/
def packPacksSpec : ChangeSpec := { name := "packPacks", fn := fun _ => fun
  | [d] => { results := [.lit (.bool true)], args := [d] }
  | _ => none }
def packPacksRow : OpenClaim := { program := "ytcpdnpaedkcebaa", sum := "10ea102973aa564d134397246f7546d8c52936b464369072b72de9bda5f7fc3c", func := "endonym/endonymlaw8.PackPacks", spec := "packPacks", inPlace := ["math.Float64bits", "math.Float64frombits"], unfollowed := true, recurses := true, plainKeys := false, apart := false }
def PackPacksSaid : Prop := packPacksRow.holds Try.pinned (OpenSpec.ofChange packPacksSpec)

/-- ITS FALSE NEIGHBOUR: 'it returns false'. Refute it at one input. -/
def packPacksWrong : ChangeSpec := { name := "packPacks", fn := fun _ => fun
  | [d] => { results := [.lit (.bool false)], args := [d] }
  | _ => none }
def PackPacksWrongFalsely : Prop := packPacksRow.holds Try.pinned (OpenSpec.ofChange packPacksWrong)

/-- 'endonymlaw8.PackUnpacks': WHATEVER THE INPUT: true; the input reads as it did. -/
def packUnpacksSpec : ChangeSpec := { name := "packUnpacks", fn := fun _ => fun
  | [d] => { results := [.lit (.bool true)], args := [d] }
  | _ => none }
def packUnpacksRow : OpenClaim := { program := "ytcpdnpaedkcebaa", sum := "10ea102973aa564d134397246f7546d8c52936b464369072b72de9bda5f7fc3c", func := "endonym/endonymlaw8.PackUnpacks", spec := "packUnpacks", inPlace := ["math.Float64bits", "math.Float64frombits"], unfollowed := true, recurses := true, plainKeys := false, apart := false }
def PackUnpacksSaid : Prop := packUnpacksRow.holds Try.pinned (OpenSpec.ofChange packUnpacksSpec)

/-- ITS FALSE NEIGHBOUR: 'it returns false'. Refute it at one input. -/
def packUnpacksWrong : ChangeSpec := { name := "packUnpacks", fn := fun _ => fun
  | [d] => { results := [.lit (.bool false)], args := [d] }
  | _ => none }
def PackUnpacksWrongFalsely : Prop := packUnpacksRow.holds Try.pinned (OpenSpec.ofChange packUnpacksWrong)

/-- 'endonymlaw8.PackBack': WHATEVER THE INPUT: true; the input reads as it did. -/
def packBackSpec : ChangeSpec := { name := "packBack", fn := fun _ => fun
  | [d1, d2] => { results := [.lit (.bool true)], args := [d1, d2] }
  | _ => none }
def packBackRow : OpenClaim := { program := "ytcpdnpaedkcebaa", sum := "10ea102973aa564d134397246f7546d8c52936b464369072b72de9bda5f7fc3c", func := "endonym/endonymlaw8.PackBack", spec := "packBack", inPlace := ["math.Float64bits", "math.Float64frombits"], unfollowed := true, recurses := true, plainKeys := false, apart := false }
def PackBackSaid : Prop := packBackRow.holds Try.pinned (OpenSpec.ofChange packBackSpec)

/-- ITS FALSE NEIGHBOUR: 'it returns false'. Refute it at one input. -/
def packBackWrong : ChangeSpec := { name := "packBack", fn := fun _ => fun
  | [d1, d2] => { results := [.lit (.bool false)], args := [d1, d2] }
  | _ => none }
def PackBackWrongFalsely : Prop := packBackRow.holds Try.pinned (OpenSpec.ofChange packBackWrong)

/-- 'endonymlaw8.PackBits': WHATEVER THE INPUT: true; the input reads as it did. -/
def packBitsSpec : ChangeSpec := { name := "packBits", fn := fun _ => fun
  | [d1, d2, d3, d4, d5] => { results := [.lit (.bool true)], args := [d1, d2, d3, d4, d5] }
  | _ => none }
def packBitsRow : OpenClaim := { program := "ytcpdnpaedkcebaa", sum := "10ea102973aa564d134397246f7546d8c52936b464369072b72de9bda5f7fc3c", func := "endonym/endonymlaw8.PackBits", spec := "packBits", inPlace := ["math.Float64bits", "math.Float64frombits"], unfollowed := true, recurses := true, plainKeys := false, apart := false }
def PackBitsSaid : Prop := packBitsRow.holds Try.pinned (OpenSpec.ofChange packBitsSpec)

/-- ITS FALSE NEIGHBOUR: 'it returns false'. Refute it at one input. -/
def packBitsWrong : ChangeSpec := { name := "packBits", fn := fun _ => fun
  | [d1, d2, d3, d4, d5] => { results := [.lit (.bool false)], args := [d1, d2, d3, d4, d5] }
  | _ => none }
def PackBitsWrongFalsely : Prop := packBitsRow.holds Try.pinned (OpenSpec.ofChange packBitsWrong)

/-- 'endonymlaw8.PackShort': WHATEVER THE INPUT: true; the input reads as it did. -/
def packShortSpec : ChangeSpec := { name := "packShort", fn := fun _ => fun
  | [d1, d2] => { results := [.lit (.bool true)], args := [d1, d2] }
  | _ => none }
def packShortRow : OpenClaim := { program := "ytcpdnpaedkcebaa", sum := "10ea102973aa564d134397246f7546d8c52936b464369072b72de9bda5f7fc3c", func := "endonym/endonymlaw8.PackShort", spec := "packShort", inPlace := ["math.Float64bits", "math.Float64frombits"], unfollowed := true, recurses := true, plainKeys := false, apart := false }
def PackShortSaid : Prop := packShortRow.holds Try.pinned (OpenSpec.ofChange packShortSpec)

/-- ITS FALSE NEIGHBOUR: 'it returns false'. Refute it at one input. -/
def packShortWrong : ChangeSpec := { name := "packShort", fn := fun _ => fun
  | [d1, d2] => { results := [.lit (.bool false)], args := [d1, d2] }
  | _ => none }
def PackShortWrongFalsely : Prop := packShortRow.holds Try.pinned (OpenSpec.ofChange packShortWrong)

/- THE SECOND FORM. 'bulk': how many values and letters a reading holds, each counted each time it is reached (what is shared counts as often as it is met; a slice's spare places count too). A statement '..UptoSaid' is the law's where the arguments, and the package variables that the reading takes, are together of bulk at most 1048576: NARROWER than '..Said'. Prove '..Said' where nothing that the law and all that it calls make is longer than what came in: it says more and counts as full. Else prove '..UptoSaid'. A law counts once. -/
mutual
def uptoBulk {H : Type} : DataW H → Nat
  | .lit (.string bytes) => bytes.length + 1
  | .lit _ => 1
  | .nil => 1
  | .ptr d => uptoBulk d + 1
  | .slice elems spare => uptoBulkAll elems + uptoBulkAll spare + 1
  | .agg parts => uptoBulkAll parts + 1
  | .iface _ d => uptoBulk d + 1
  | .map entries => uptoBulkEntries entries + 1
  | .held _ => 1
def uptoBulkAll {H : Type} : List (DataW H) → Nat
  | [] => 0
  | d :: r => uptoBulk d + uptoBulkAll r
def uptoBulkEntries {H : Type} : List (Lit × DataW H) → Nat
  | [] => 0
  | x :: r => uptoBulkEntry x + uptoBulkEntries r
def uptoBulkEntry {H : Type} : Lit × DataW H → Nat
  | (.string bytes, d) => bytes.length + uptoBulk d + 1
  | (_, d) => uptoBulk d + 1
 end
def uptoSmall : (H : Type) → List (DataW H) → Bool := fun _ ds => decide (uptoBulkAll ds ≤ 1048576)
def OpenSpec.upto (s : _root_.Go.ChangeSpec) : _root_.Go.OpenSpec := { _root_.Go.OpenSpec.ofChange s with cond := some uptoSmall }

/-- 'endonymlaw7.CanonOpens', WHERE WHAT IT READS IS OF BULK AT MOST 1048576: true; the input reads as it did. -/
def canonOpensUptoRow : OpenClaim := { program := "ytcpdnpaedkcebaa", sum := "10ea102973aa564d134397246f7546d8c52936b464369072b72de9bda5f7fc3c", func := "endonym/endonymlaw7.CanonOpens", spec := "canonOpens", inPlace := ["math.Float64bits"], unfollowed := true, recurses := true, plainKeys := false, apart := false, narrowed := true }
def CanonOpensUptoSaid : Prop := canonOpensUptoRow.holds Try.pinned (OpenSpec.upto canonOpensSpec)

/-- 'endonymlaw7.CanonFulls', WHERE WHAT IT READS IS OF BULK AT MOST 1048576: true; the input reads as it did. -/
def canonFullsUptoRow : OpenClaim := { program := "ytcpdnpaedkcebaa", sum := "10ea102973aa564d134397246f7546d8c52936b464369072b72de9bda5f7fc3c", func := "endonym/endonymlaw7.CanonFulls", spec := "canonFulls", inPlace := ["math.Float64bits"], unfollowed := true, recurses := true, plainKeys := false, apart := false, narrowed := true }
def CanonFullsUptoSaid : Prop := canonFullsUptoRow.holds Try.pinned (OpenSpec.upto canonFullsSpec)

/-- 'endonymlaw7.CanonChecks', WHERE WHAT IT READS IS OF BULK AT MOST 1048576: true; the input reads as it did. -/
def canonChecksUptoRow : OpenClaim := { program := "ytcpdnpaedkcebaa", sum := "10ea102973aa564d134397246f7546d8c52936b464369072b72de9bda5f7fc3c", func := "endonym/endonymlaw7.CanonChecks", spec := "canonChecks", inPlace := ["math.Float64bits"], unfollowed := true, recurses := true, plainKeys := false, apart := false, narrowed := true }
def CanonChecksUptoSaid : Prop := canonChecksUptoRow.holds Try.pinned (OpenSpec.upto canonChecksSpec)

/-- 'endonymlaw7.CanonLeaves', WHERE WHAT IT READS IS OF BULK AT MOST 1048576: true; the input reads as it did. -/
def canonLeavesUptoRow : OpenClaim := { program := "ytcpdnpaedkcebaa", sum := "10ea102973aa564d134397246f7546d8c52936b464369072b72de9bda5f7fc3c", func := "endonym/endonymlaw7.CanonLeaves", spec := "canonLeaves", inPlace := ["math.Float64bits"], unfollowed := true, recurses := true, plainKeys := false, apart := false, narrowed := true }
def CanonLeavesUptoSaid : Prop := canonLeavesUptoRow.holds Try.pinned (OpenSpec.upto canonLeavesSpec)

/-- 'endonymlaw7.CanonTurned', WHERE WHAT IT READS IS OF BULK AT MOST 1048576: true; the input reads as it did. -/
def canonTurnedUptoRow : OpenClaim := { program := "ytcpdnpaedkcebaa", sum := "10ea102973aa564d134397246f7546d8c52936b464369072b72de9bda5f7fc3c", func := "endonym/endonymlaw7.CanonTurned", spec := "canonTurned", inPlace := ["math.Float64bits"], unfollowed := true, recurses := true, plainKeys := false, apart := false, narrowed := true }
def CanonTurnedUptoSaid : Prop := canonTurnedUptoRow.holds Try.pinned (OpenSpec.upto canonTurnedSpec)

/-- 'endonymlaw7.CanonOther', WHERE WHAT IT READS IS OF BULK AT MOST 1048576: true; the input reads as it did. -/
def canonOtherUptoRow : OpenClaim := { program := "ytcpdnpaedkcebaa", sum := "10ea102973aa564d134397246f7546d8c52936b464369072b72de9bda5f7fc3c", func := "endonym/endonymlaw7.CanonOther", spec := "canonOther", inPlace := ["math.Float64bits"], unfollowed := true, recurses := true, plainKeys := false, apart := false, narrowed := true }
def CanonOtherUptoSaid : Prop := canonOtherUptoRow.holds Try.pinned (OpenSpec.upto canonOtherSpec)

/-- 'endonymlaw8.PackPacks', WHERE WHAT IT READS IS OF BULK AT MOST 1048576: true; the input reads as it did. -/
def packPacksUptoRow : OpenClaim := { program := "ytcpdnpaedkcebaa", sum := "10ea102973aa564d134397246f7546d8c52936b464369072b72de9bda5f7fc3c", func := "endonym/endonymlaw8.PackPacks", spec := "packPacks", inPlace := ["math.Float64bits", "math.Float64frombits"], unfollowed := true, recurses := true, plainKeys := false, apart := false, narrowed := true }
def PackPacksUptoSaid : Prop := packPacksUptoRow.holds Try.pinned (OpenSpec.upto packPacksSpec)

/-- 'endonymlaw8.PackUnpacks', WHERE WHAT IT READS IS OF BULK AT MOST 1048576: true; the input reads as it did. -/
def packUnpacksUptoRow : OpenClaim := { program := "ytcpdnpaedkcebaa", sum := "10ea102973aa564d134397246f7546d8c52936b464369072b72de9bda5f7fc3c", func := "endonym/endonymlaw8.PackUnpacks", spec := "packUnpacks", inPlace := ["math.Float64bits", "math.Float64frombits"], unfollowed := true, recurses := true, plainKeys := false, apart := false, narrowed := true }
def PackUnpacksUptoSaid : Prop := packUnpacksUptoRow.holds Try.pinned (OpenSpec.upto packUnpacksSpec)

/-- 'endonymlaw8.PackBack', WHERE WHAT IT READS IS OF BULK AT MOST 1048576: true; the input reads as it did. -/
def packBackUptoRow : OpenClaim := { program := "ytcpdnpaedkcebaa", sum := "10ea102973aa564d134397246f7546d8c52936b464369072b72de9bda5f7fc3c", func := "endonym/endonymlaw8.PackBack", spec := "packBack", inPlace := ["math.Float64bits", "math.Float64frombits"], unfollowed := true, recurses := true, plainKeys := false, apart := false, narrowed := true }
def PackBackUptoSaid : Prop := packBackUptoRow.holds Try.pinned (OpenSpec.upto packBackSpec)

/-- 'endonymlaw8.PackBits', WHERE WHAT IT READS IS OF BULK AT MOST 1048576: true; the input reads as it did. -/
def packBitsUptoRow : OpenClaim := { program := "ytcpdnpaedkcebaa", sum := "10ea102973aa564d134397246f7546d8c52936b464369072b72de9bda5f7fc3c", func := "endonym/endonymlaw8.PackBits", spec := "packBits", inPlace := ["math.Float64bits", "math.Float64frombits"], unfollowed := true, recurses := true, plainKeys := false, apart := false, narrowed := true }
def PackBitsUptoSaid : Prop := packBitsUptoRow.holds Try.pinned (OpenSpec.upto packBitsSpec)

/-- 'endonymlaw8.PackShort', WHERE WHAT IT READS IS OF BULK AT MOST 1048576: true; the input reads as it did. -/
def packShortUptoRow : OpenClaim := { program := "ytcpdnpaedkcebaa", sum := "10ea102973aa564d134397246f7546d8c52936b464369072b72de9bda5f7fc3c", func := "endonym/endonymlaw8.PackShort", spec := "packShort", inPlace := ["math.Float64bits", "math.Float64frombits"], unfollowed := true, recurses := true, plainKeys := false, apart := false, narrowed := true }
def PackShortUptoSaid : Prop := packShortUptoRow.holds Try.pinned (OpenSpec.upto packShortSpec)

end Rows
end Go.Proofs.Ytcpdnpaedkcebaa
