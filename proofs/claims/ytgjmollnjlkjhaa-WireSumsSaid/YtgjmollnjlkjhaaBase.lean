/- Small facts on Go's numbers, on lists of bytes and on the print's words. -/
import Derived.OpenShut
import Derived.Laws.Bits128
import Derived.Laws.BitsAllLaws
import Derived.Lib.Bytes
import Derived.Test.YtgjmollnjlkjhaaWMore
namespace Go.Proofs.Ytgjmollnjlkjhaa.Base
open Go Go.RowKit Go.Proofs.YtgjmollnjlkjhaaW.PrintWords Go.Proofs.YtgjmollnjlkjhaaW.PrintLast Go.Proofs.YtgjmollnjlkjhaaW.PrintMore
set_option linter.unusedVariables false

theorem i64_and40 (n : Int) : bits .and .i64 n 1099511627775 = n % 1099511627776 := by
  have h1 : (BitVec.ofInt 64 1099511627775).toNat = 2 ^ 40 - 1 := by decide
  have key : (BitVec.ofInt 64 n &&& BitVec.ofInt 64 1099511627775).toNat = (n % ((2 ^ 64 : Nat) : Int)).toNat % 2 ^ 40 := by
    rw [BitVec.toNat_and, BitVec.toNat_ofInt, h1, Nat.and_two_pow_sub_one_eq_mod]
  show IntKind.i64.wrap ((BitVec.ofInt 64 n &&& BitVec.ofInt 64 1099511627775).toNat : Nat) = n % 1099511627776
  rw [key, IntKind.wrap_i64]
  omega
theorem i64_and63bits (n : Int) : bits .and .i64 n 9223372036854775807 = n % 9223372036854775808 := by
  have h1 : (BitVec.ofInt 64 9223372036854775807).toNat = 2 ^ 63 - 1 := by decide
  have key : (BitVec.ofInt 64 n &&& BitVec.ofInt 64 9223372036854775807).toNat = (n % ((2 ^ 64 : Nat) : Int)).toNat % 2 ^ 63 := by
    rw [BitVec.toNat_and, BitVec.toNat_ofInt, h1, Nat.and_two_pow_sub_one_eq_mod]
  show IntKind.i64.wrap ((BitVec.ofInt 64 n &&& BitVec.ofInt 64 9223372036854775807).toNat : Nat) = n % 9223372036854775808
  rw [key, IntKind.wrap_i64]
  omega
theorem i64_and7 (n : Int) : bits .and .i64 n 7 = n % 8 := by
  have h1 : (BitVec.ofInt 64 7).toNat = 2 ^ 3 - 1 := by decide
  have key : (BitVec.ofInt 64 n &&& BitVec.ofInt 64 7).toNat = (n % ((2 ^ 64 : Nat) : Int)).toNat % 2 ^ 3 := by
    rw [BitVec.toNat_and, BitVec.toNat_ofInt, h1, Nat.and_two_pow_sub_one_eq_mod]
  show IntKind.i64.wrap ((BitVec.ofInt 64 n &&& BitVec.ofInt 64 7).toNat : Nat) = n % 8
  rw [key, IntKind.wrap_i64]
  omega
theorem i64_and63 (n : Int) : bits .and .i64 n 63 = n % 64 := by
  have h1 : (BitVec.ofInt 64 63).toNat = 2 ^ 6 - 1 := by decide
  have key : (BitVec.ofInt 64 n &&& BitVec.ofInt 64 63).toNat = (n % ((2 ^ 64 : Nat) : Int)).toNat % 2 ^ 6 := by
    rw [BitVec.toNat_and, BitVec.toNat_ofInt, h1, Nat.and_two_pow_sub_one_eq_mod]
  show IntKind.i64.wrap ((BitVec.ofInt 64 n &&& BitVec.ofInt 64 63).toNat : Nat) = n % 64
  rw [key, IntKind.wrap_i64]
  omega
theorem w64 (n : Int) (h1 : -9223372036854775808 ≤ n) (h2 : n ≤ 9223372036854775807) : wrap64 n = n := by unfold wrap64; omega
theorem u64w (n : Int) (h1 : 0 ≤ n) (h2 : n ≤ 18446744073709551615) : IntKind.u64.wrap n = n := by rw [IntKind.wrap_u64]; omega
theorem u32and1 (r : Nat) (h : r < 4294967296) : bits .and .u32 (r : Int) 1 = ((r % 2 : Nat) : Int) := by
  have := u32_and_nat r 1 h (by decide)
  rw [Nat.and_one_is_mod] at this
  exact this
/-- Lists of bytes as natural numbers. -/
def ints (l : List Nat) : List Int := l.map fun n : Nat => (n : Int)
theorem ints_length (l : List Nat) : (ints l).length = l.length := by simp [ints]
theorem rd_ints (l : List Nat) (i : Nat) : rd (ints l) (i : Int) = ((l.getD i 0 : Nat) : Int) := by
  simp only [rd, ints, Int.toNat_natCast, List.getD_eq_getElem?_getD, List.getElem?_map]
  cases l[i]? <;> rfl
theorem set_ints (l : List Nat) (i x : Nat) : (ints l).set i (x : Int) = ints (l.set i x) := by simp [ints, List.map_set]
theorem ints_inj {a b : List Nat} (h : ints a = ints b) : a = b := by
  have := congrArg (List.map Int.toNat) h
  simpa [ints, List.map_map, Function.comp_def] using this
theorem nats_of_wf {l : List Int} (h : ∀ x ∈ l, (Lit.int .u8 x).wf = true) : ∃ L : List Nat, l = ints L ∧ ∀ c ∈ L, c < 256 := by
  refine ⟨l.map Int.toNat, ?_, ?_⟩
  · unfold ints
    rw [List.map_map]
    refine (List.map_id l).symm.trans (List.map_congr_left fun x hx => ?_)
    have := bounds_u8 (h x hx)
    simp only [Function.comp, id]
    omega
  · intro c hc
    obtain ⟨x, hx, rfl⟩ := List.mem_map.1 hc
    have := bounds_u8 (h x hx)
    omega
theorem getD_lt {L : List Nat} {b : Nat} (h : ∀ c ∈ L, c < b) (hb : 0 < b) (i : Nat) : L.getD i 0 < b := by
  rw [List.getD_eq_getElem?_getD]
  by_cases hi : i < L.length
  · rw [List.getElem?_eq_getElem hi]
    exact h _ (List.getElem_mem hi)
  · rw [List.getElem?_eq_none (by omega)]
    exact hb
theorem str_ints {a b : List Nat} (ha : ∀ c ∈ a, c < 256) (hb : ∀ c ∈ b, c < 256) (h : (strOfNums (ints a)).toList = (strOfNums (ints b)).toList) : a = b := by
  have h2 := h
  rw [Lib.strOfNums_toList, Lib.strOfNums_toList] at h2
  simp only [Lib.bytesOf, ints, List.map_map] at h2
  have h3 := congrArg (List.map UInt8.toNat) h2
  rw [List.map_map, List.map_map] at h3
  have key : ∀ l : List Nat, (∀ c ∈ l, c < 256) → l.map (UInt8.toNat ∘ ((fun n : Int => UInt8.ofNat n.toNat) ∘ fun n : Nat => (n : Int))) = l := by
    intro l hl
    refine (List.map_congr_left fun x hx => ?_).trans (List.map_id l)
    have := hl x hx
    simp only [Function.comp, Int.toNat_natCast, id]
    exact UInt8.toNat_ofNat_of_lt this
  rwa [key a ha, key b hb] at h3
end Go.Proofs.Ytgjmollnjlkjhaa.Base
