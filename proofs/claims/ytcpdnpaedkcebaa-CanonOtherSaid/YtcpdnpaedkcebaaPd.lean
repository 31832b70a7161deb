/- Plain law: the program and the document find the same wrong with a record. -/
import Derived.Test.YtcpdnpaedkcebaaPc
namespace Go.Proofs.Ytcpdnpaedkcebaa.V
open Go Go.RowKit
set_option linter.unusedVariables false
set_option linter.unusedSimpArgs false
theorem dbl_sw : FloatKind.f64.format.signWeight = 9223372036854775808 := by decide
theorem dbl_bin : FloatKind.f64.format.binade = 4503599627370496 := by decide
theorem dbl_inf : FloatKind.f64.format.infRung = 9218868437227405312 := by decide
theorem order_self (x : Nat) : FloatKind.f64.format.order x x = some .eq ↔ x % 9223372036854775808 ≤ 9218868437227405312 := by
  unfold Ieee.Format.order Ieee.Format.read
  rw [dbl_sw, dbl_bin, dbl_inf]
  by_cases h1 : x % 9223372036854775808 < 4503599627370496
  · simp only [if_pos h1, Ieee.Datum.order, Std.ReflCmp.compare_self, true_iff]; omega
  · rw [if_neg h1]
    by_cases h2 : x % 9223372036854775808 < 9218868437227405312
    · simp only [if_pos h2, Ieee.Datum.order, Std.ReflCmp.compare_self, true_iff]; omega
    · rw [if_neg h2]
      by_cases h3 : x % 9223372036854775808 = 9218868437227405312
      · simp only [if_pos h3, Ieee.Datum.order, Std.ReflCmp.compare_self, true_iff]; omega
      · simp only [if_neg h3, Ieee.Datum.order, reduceCtorEq, false_iff]; omega
theorem rank_zero : rankF 0 = 0 := by
  unfold rankF
  have h0 : FloatKind.f64.format.order 0 0 = some .eq := (order_self 0).2 (by decide)
  rw [if_neg (by rw [h0]; simp)]
  rfl
theorem weighs_eq {r : Rec} (h : r.weight < 18446744073709551616) : weighsR r = weightR r.weight := by
  unfold weighsR weightR orderF
  rw [rank_zero, Bool.eq_iff_iff]
  simp only [Bool.and_eq_true, decide_eq_true_eq]
  constructor
  · rintro ⟨h1, h2⟩
    have h3 := (order_self _).1 h1
    rcases Nat.lt_or_ge r.weight 9223372036854775808 with hs | hs
    · omega
    · exfalso
      have : rankF r.weight < 0 := by
        unfold rankF
        rw [if_neg (by simp [h1])]
        simp only [wrap_i64]
        rw [if_pos (by omega)]
        omega
      rw [if_pos this] at h2
      omega
  · intro h1
    have h3 : FloatKind.f64.format.order r.weight r.weight = some .eq := (order_self _).2 (by omega)
    refine ⟨h3, ?_⟩
    have : ¬ rankF r.weight < 0 := by
      unfold rankF
      rw [if_neg (by simp [h3])]
      simp only [wrap_i64]
      rw [if_neg (by omega)]
      omega
    rw [if_neg this]
    split <;> omega
theorem bit_low {x : Int} (h0 : 0 ≤ x) (h1 : x ≤ 1114111) : bitI .and .i64 x 2097151 = x := by
  obtain ⟨n, rfl⟩ := Int.eq_ofNat_of_zero_le h0
  have hn : n ≤ 1114111 := by omega
  have e : ((BitVec.ofNat 64 n &&& BitVec.ofNat 64 (2 ^ 21 - 1)).toNat) = n := by
    rw [BitVec.toNat_and, BitVec.toNat_ofNat, BitVec.toNat_ofNat]
    rw [Nat.mod_eq_of_lt (a := n) (by omega), Nat.mod_eq_of_lt (a := 2 ^ 21 - 1) (by decide), Nat.and_two_pow_sub_one_eq_mod]
    exact Nat.mod_eq_of_lt (by omega)
  have e1 : BitVec.ofInt 64 (n : Int) = BitVec.ofNat 64 n := by
    apply BitVec.eq_of_toNat_eq
    simp [BitVec.toNat_ofInt]
  have e2 : BitVec.ofInt 64 2097151 = BitVec.ofNat 64 (2 ^ 21 - 1) := by decide
  show IntKind.i64.wrap ((BitVec.ofInt 64 (n : Int) &&& BitVec.ofInt 64 2097151).toNat : Int) = (n : Int)
  rw [e1, e2, e]
  exact i64_id (by omega) (by omega)
theorem one_eq {r : Rec} (h : spanR r = true) : oneR r = oneF r := by
  unfold spanR at h
  simp only [Bool.and_eq_true, decide_eq_true_eq] at h
  unfold oneR oneF
  rw [bit_low (by omega) (by omega)]
theorem to_pos (r : Rec) : (0 : Int) < r.to.length ↔ ¬ r.to = [] := by cases r.to <;> simp <;> omega
theorem none_eq (r : Rec) (n t m w : Bool) (h : r.kind ≠ 15) : noneR n t m w r = bareR r (!n) (!t) (!m) false (!w) := by
  unfold noneR bareR
  have e := to_pos r
  rw [Bool.eq_iff_iff]
  cases n <;> cases t <;> cases m <;> cases w <;> simp [h, e] <;> grind
theorem none_eq2 (r : Rec) (h : r.kind = 15) : noneR true true false false r = bareR r false false true true true := by
  unfold noneR bareR
  have e := to_pos r
  rw [Bool.eq_iff_iff]
  simp [h, e]
theorem list_eq (r : Rec) (a b : Int) : soundR r a b = listR r.to a b := rfl
theorem shift_eq {r : Rec} (h : spanR r = true) (hok : r.ok) : shiftsR r = (decide (1 ≤ r.n) && decide (r.n ≤ 64) && listR r.to 1 1 && shiftF r) := by
  unfold spanR at h
  simp only [Bool.and_eq_true, decide_eq_true_eq] at h
  unfold shiftsR shiftF listR
  match hto : r.to with
  | [] => simp
  | a :: b :: l => 
    have : ¬ ((l.length : Int) + 1 + 1 ≤ 1) := by omega
    simp [this]
  | [a] =>
    have ha : i32ok a := hok.2.2.2.2 a (by rw [hto]; exact List.mem_singleton.2 rfl)
    unfold i32ok at ha
    rw [Bool.eq_iff_iff]
    simp only [wrap_i32, wrap_i64, valid, List.length_singleton, List.all_cons, List.all_nil, Bool.and_eq_true, Bool.or_eq_true, decide_eq_true_eq, beq_iff_eq, decide_eq_decide, Bool.and_true]
    omega
theorem fits_eq {r : Rec} (h : spanR r = true) (hok : r.ok) (hf : famK r.kind ≠ 0) (hk : r.kind ≠ 15) (hw : r.weight < 18446744073709551616) : fitsR r = okF r := by
  unfold fitsR okF
  have hk' : r.kind = 1 ∨ r.kind = 2 ∨ r.kind = 3 ∨ r.kind = 4 ∨ r.kind = 5 ∨ r.kind = 6 ∨ r.kind = 7 ∨ r.kind = 8 ∨ r.kind = 9 ∨ r.kind = 10 ∨ r.kind = 11 ∨ r.kind = 12 ∨ r.kind = 13 ∨ r.kind = 14 := by
    unfold famK at hf
    (repeat' split at hf) <;> omega
  rw [h, one_eq h, shift_eq h hok, weighs_eq hw]
  simp only [none_eq r _ _ _ _ hk, list_eq]
  rcases hk' with e | e | e | e | e | e | e | e | e | e | e | e | e | e <;> simp [e, Bool.and_assoc, Bool.and_comm, Bool.and_left_comm]
theorem right_eq {r : Rec} (hok : r.ok) (hw : r.weight < 18446744073709551616) : rightR r = rightF r := by
  unfold rightR rightF
  by_cases hf : famK r.kind = 0
  · rw [if_pos hf, if_pos hf]
  rw [if_neg hf, if_neg hf]
  by_cases hk : r.kind = 15
  · simp only [if_pos hk]
    have : fitsR r = (bareR r false false true true true && nameS r.name && nameS r.other && !decide (r.name.data.toList = r.other.data.toList) && weightR r.weight) := by
      unfold fitsR
      rw [none_eq2 r hk, weighs_eq hw]
      simp [hk]
    rw [this]
    simp only [Bool.and_eq_true, decide_eq_true_eq, and_assoc]
  · simp only [if_neg hk]
    by_cases hs : spanR r = true
    · have hs' := hs
      unfold spanR at hs'
      simp only [Bool.and_eq_true, decide_eq_true_eq] at hs'
      rw [fits_eq hs hok hf hk hw]
      simp only [hs'.1.1, hs'.1.2, hs'.2, true_and]
    · have hok0 : okF r = false := by
        unfold okF
        simp [hs]
      have hs' := hs
      unfold spanR at hs'
      simp only [Bool.and_eq_true, decide_eq_true_eq] at hs'
      rw [hok0, if_neg (fun h => hs' ⟨⟨h.1.1, h.1.2.1⟩, h.1.2.2⟩)]
      rfl
end Go.Proofs.Ytcpdnpaedkcebaa.V
