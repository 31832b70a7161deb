/- What the printed floats' readers and writers come to, the program's and the document's alike; what is written is read, what is read is written just so. -/
import Derived.Test.YtgjmollnjlkjhaaQx7
import Derived.Test.YtgjmollnjlkjhaaQx8
import Derived.Test.YtgjmollnjlkjhaaWireLaw
namespace Go.Proofs.Ytgjmollnjlkjhaa.FloatLaw
open Go Go.RowKit Go.Proofs.Ytgjmollnjlkjhaa.Q Go.Proofs.YtgjmollnjlkjhaaW.PrintWords Go.Proofs.YtgjmollnjlkjhaaW.PrintLast Go.Proofs.YtgjmollnjlkjhaaW.PrintMore Go.Proofs.Ytgjmollnjlkjhaa.Base Go.Proofs.Ytgjmollnjlkjhaa.WireLaw
set_option linter.unusedVariables false

/-! ### Plain -/
def f8 (u : Nat) : List Nat := (List.range 8).map fun m => u / 256 ^ m % 256
theorem f8_length (u : Nat) : (f8 u).length = 8 := by simp [f8]
theorem f8_lt (u : Nat) : ∀ c ∈ f8 u, c < 256 := by
  intro c hc
  obtain ⟨m, _, rfl⟩ := List.mem_map.1 hc
  exact Nat.mod_lt _ (by decide)
theorem f8_get (u m : Nat) (h : m < 8) : (f8 u).getD m 0 = u / 256 ^ m % 256 := by
  rw [List.getD_eq_getElem?_getD, f8, List.getElem?_map, List.getElem?_range h]
  rfl
/-- What k bytes say. -/
def val (L : List Nat) : Nat → Nat
  | 0 => 0
  | k + 1 => val L k + L.getD k 0 * 256 ^ k
theorem val_lt {L : List Nat} (hL : ∀ c ∈ L, c < 256) (k : Nat) : val L k < 256 ^ k := by
  induction k with
  | zero => exact Nat.one_pos
  | succ k ih =>
    have h1 : L.getD k 0 < 256 := getD_lt hL (by decide) k
    have h2 : L.getD k 0 * 256 ^ k ≤ 255 * 256 ^ k := Nat.mul_le_mul_right _ (by omega)
    rw [val, Nat.pow_succ]
    omega
theorem val_f8 (u k : Nat) (hk : k ≤ 8) : val (f8 u) k = u % 256 ^ k := by
  induction k with
  | zero => rw [Nat.pow_zero, Nat.mod_one]; rfl
  | succ k ih =>
    rw [val, ih (by omega), f8_get u k (by omega), Nat.pow_succ, Nat.mod_mul, Nat.mul_comm (256 ^ k)]
theorem val_get {L : List Nat} (hL : ∀ c ∈ L, c < 256) (k : Nat) : ∀ m, m < k → val L k / 256 ^ m % 256 = L.getD m 0 := by
  induction k with
  | zero => intro m hm; omega
  | succ k ih =>
    intro m hm
    have h1 : L.getD k 0 < 256 := getD_lt hL (by decide) k
    rw [val]
    by_cases he : m = k
    · subst he
      rw [Nat.add_mul_div_right _ _ (Nat.pow_pos (by decide)), Nat.div_eq_of_lt (val_lt hL m), Nat.zero_add, Nat.mod_eq_of_lt h1]
    · obtain ⟨d, rfl⟩ : ∃ d, k = m + (d + 1) := ⟨k - m - 1, by omega⟩
      have h2 : L.getD (m + (d + 1)) 0 * 256 ^ (m + (d + 1)) = (L.getD (m + (d + 1)) 0 * 256 ^ d * 256) * 256 ^ m := by
        rw [Nat.pow_add, Nat.pow_succ, Nat.mul_comm (256 ^ m), ← Nat.mul_assoc, ← Nat.mul_assoc]
      rw [h2, Nat.add_mul_div_right _ _ (Nat.pow_pos (by decide)), Nat.add_mul_mod_self_right]
      exact ih m (by omega)
theorem f8_val {L : List Nat} (hL : ∀ c ∈ L, c < 256) (h8 : L.length = 8) : f8 (val L 8) = L := by
  refine List.ext_getElem (by rw [f8_length, h8]) (fun m h1 h2 => ?_)
  have h := val_get hL 8 m (by omega)
  have e1 := f8_get (val L 8) m (by omega)
  rw [h] at e1
  simpa [List.getD_eq_getElem?_getD, List.getElem?_eq_getElem h1, List.getElem?_eq_getElem h2] using e1

/-! ### The printed writers -/
theorem shr8 (u m : Nat) (hm : m < 8) : shr .u64 (u : Int) (8 * (m : Int)) = ((u / 256 ^ m : Nat) : Int) := by
  unfold shr
  have e : min (8 * (m : Int)).toNat IntKind.u64.bits = 8 * m := by
    have : IntKind.u64.bits = 64 := rfl
    omega
  rw [e]
  have : (2 : Nat) ^ (8 * m) = 256 ^ m := by rw [Nat.pow_mul]
  rw [← this, Int.natCast_ediv]
  simp
def part (u i : Nat) : List Nat := (List.range 8).map fun m => if m < i then u / 256 ^ m % 256 else 0
theorem part_length (u i : Nat) : (part u i).length = 8 := by simp [part]
theorem part_set (u i : Nat) (hi : i < 8) : (part u i).set i (u / 256 ^ i % 256) = part u (i + 1) := by
  refine List.ext_getElem (by simp [part]) (fun m h1 h2 => ?_)
  simp only [part, List.getElem_set, List.getElem_map, List.getElem_range]
  by_cases h : i = m
  · subst h; rw [if_pos rfl, if_pos (by omega)]
  · rw [if_neg h]
    by_cases h3 : m < i
    · rw [if_pos h3, if_pos (by omega)]
    · rw [if_neg h3, if_neg (by omega)]
theorem part_all (u : Nat) : part u 8 = f8 u := by
  refine List.map_congr_left (fun m hm => ?_)
  rw [if_pos (List.mem_range.1 hm)]
theorem float_l0 (u : Nat) : ∀ (d i : Nat), i + d = 8 → Ev (fun k => wire_Float.l0 k (u : Int) (ints (part u i)) 8 (i : Int)) (ints (f8 u)) := by
  intro d
  induction d with
  | zero =>
    intro i hi
    obtain rfl : i = 8 := by omega
    refine Ev.step (fun k => ?_) (Ev.now _)
    simp only [wire_Float.l0]
    rw [if_neg (by omega), part_all]
  | succ d ih =>
    intro i hi
    refine Ev.step (fun k => ?_) (ih (i + 1) (by omega))
    simp only [wire_Float.l0]
    rw [if_pos (by omega), w64 (8 * (i : Int)) (by omega) (by omega), if_pos (by omega), if_pos (by omega), if_pos (by rw [ints_length, part_length]; omega), shr8 u i (by omega), w64 _ (by omega) (by omega), Int.toNat_natCast]
    have e : ((u / 256 ^ i : Nat) : Int) % 256 = ((u / 256 ^ i % 256 : Nat) : Int) := by omega
    rw [e, set_ints, part_set u i (by omega)]
    rfl
theorem float_is (u : Nat) : Ev (fun k => wire_Float.f k u) (ints (f8 u)) := by
  have h := float_l0 u 8 0 (by omega)
  have e : ints (part u 0) = List.replicate 8 0 := by simp [part, ints]; rfl
  rw [e] at h
  refine Ev.congr (fun k => ?_) h
  unfold wire_Float.f api_Bits.f
  rw [Option.bind_some, if_pos (by decide), Option.bind_some]
  rfl
theorem rfloat_l0 (u : Nat) (hu : u < 18446744073709551616) : ∀ (d i : Nat), i + d = 8 → Ev (fun k => endonymref1_Float.l0 k (u : Int) (ints ((f8 u).take i)) (i : Int)) (ints (f8 u)) := by
  intro d
  induction d with
  | zero =>
    intro i hi
    obtain rfl : i = 8 := by omega
    refine Ev.step (fun k => ?_) (Ev.now _)
    simp only [endonymref1_Float.l0]
    rw [if_neg (by omega), List.take_of_length_le (by rw [f8_length]; omega)]
  | succ d ih =>
    intro i hi
    have e1 : IntKind.u64.wrap (wrap64 (8 * (i : Int))) = 8 * (i : Int) := by rw [w64 _ (by omega) (by omega), u64w _ (by omega) (by omega)]
    have h2 : u / 256 ^ i < 18446744073709551616 := Nat.lt_of_le_of_lt (Nat.div_le_self _ _) hu
    have e2 : bits .and .u64 ((u / 256 ^ i : Nat) : Int) 255 = ((u / 256 ^ i % 256 : Nat) : Int) := by
      have := u64_and_nat (u / 256 ^ i) 255 h2 (by decide)
      rw [nat_mask8] at this
      exact this
    have e3 : (f8 u).take (i + 1) = (f8 u).take i ++ [u / 256 ^ i % 256] := by
      rw [List.take_succ_eq_append_getElem (by rw [f8_length]; omega)]
      congr 1
      simp [f8]
    refine Ev.step (fun k => ?_) (ih (i + 1) (by omega))
    simp only [endonymref1_Float.l0]
    rw [if_pos (by omega), e1, if_pos (by omega), if_pos (by rw [ints_length, List.length_take, f8_length]; omega), shr8 u i (by omega), e2, w64 _ (by omega) (by omega), e3, ints_append]
    have e : ((u / 256 ^ i % 256 : Nat) : Int) % 256 = ((u / 256 ^ i % 256 : Nat) : Int) := by omega
    rw [e]
    rfl
theorem rfloat_is (u : Nat) (hu : u < 18446744073709551616) : Ev (fun k => endonymref1_Float.f k (u : Int)) (ints (f8 u)) :=
  Ev.congr (fun k => rfl) (rfloat_l0 u hu 8 0 (by omega))

/-! ### The printed readers -/
theorem u64_range (op : BinOp) (a b : Int) : 0 ≤ bits op .u64 a b ∧ bits op .u64 a b ≤ 18446744073709551615 := by
  unfold bits
  simp only [IntKind.wrap_u64]
  omega
theorem rf_range (xs : List Int) (k : Nat) : 0 ≤ rf xs k ∧ rf xs k ≤ 18446744073709551615 := by
  cases k with
  | zero => simp [rf]
  | succ k => exact u64_range _ _ _
theorem rf_val {L : List Nat} (hL : ∀ c ∈ L, c < 256) (k : Nat) (hk : k ≤ 8) : rf (ints L) k = ((val L k : Nat) : Int) := by
  induction k with
  | zero => rfl
  | succ k ih =>
    have h1 : L.getD k 0 < 256 := getD_lt hL (by decide) k
    have h2 := val_lt hL k
    have h3 : L.getD k 0 * 256 ^ k ≤ 255 * 256 ^ k := Nat.mul_le_mul_right _ (by omega)
    have h4 : 256 ^ k ≤ 256 ^ 7 := Nat.pow_le_pow_right (by decide) (by omega)
    have h5 : (256 : Nat) ^ 7 = 72057594037927936 := by decide
    have hp : (2 : Nat) ^ (8 * k) = 256 ^ k := by rw [Nat.pow_mul]
    have e1 : IntKind.u64.wrap (IntKind.u64.wrap ((L.getD k 0 : Nat) : Int) * 2 ^ (8 * k)) = ((L.getD k 0 * 256 ^ k : Nat) : Int) := by
      rw [u64w ((L.getD k 0 : Nat) : Int) (by omega) (by omega), show ((2 : Int) ^ (8 * k)) = ((2 ^ (8 * k) : Nat) : Int) by simp, hp, ← Int.natCast_mul, u64w _ (by omega) (by omega)]
    have hc : ∀ a b : Int, bits .or .u64 a b = bits .or .u64 b a := fun a b => by simp only [bits, BitVec.or_comm]
    have hw : ∀ n : Int, 0 ≤ n → n < 2 ^ 64 → IntKind.u64.wrap n = n := fun n h0 h1 => by rw [IntKind.wrap_u64]; omega
    have hpi : ((2 : Int) ^ (8 * k)) = ((256 ^ k : Nat) : Int) := by rw [← hp]; simp
    rw [rf, ih (by omega), rd_ints, e1, hc, bits_join .u64 64 (by decide) hw (8 * k) _ _ (by omega) (by rw [hpi, ← Int.natCast_emod, Nat.mul_mod_left]; rfl) (by omega) (by omega) (by rw [hpi]; omega) (by omega), val]
    omega
/-- Reading a float's bits. -/
def readf (B : List Nat) (at_ : Int) : Nat × Int × Int :=
  if at_ < 0 ∨ at_ > (B.length : Int) then (0, 0, 1) else if at_ + 8 ≤ (B.length : Int) then (val ((B.drop at_.toNat).take 8) 8, at_ + 8, 0) else (0, 0, 10)
theorem take_drop_ints (B : List Nat) (a n : Nat) : ((ints B).drop a).take n = ints ((B.drop a).take n) := by simp [ints, List.map_take, List.map_drop]
theorem rf_is (B : List Nat) (hB : ∀ c ∈ B, c < 256) (at_ : Int) : wire_ReadFloat.f (ints B) at_ = some (readf B at_) := by
  unfold wire_ReadFloat.f readf
  rw [ints_length]
  by_cases h1 : at_ < 0
  · rw [if_pos h1, if_pos (.inl h1)]
  · by_cases h2 : at_ > (B.length : Int)
    · rw [if_neg h1, if_pos h2, if_pos (.inr h2)]
    · rw [if_neg h1, if_neg h2, if_neg (show ¬ (at_ < 0 ∨ at_ > (B.length : Int)) by omega)]
      by_cases h3 : at_ + 8 ≤ (B.length : Int)
      · rw [if_pos h3, if_pos h3, take_drop_ints, rf_val (fun c hc => hB c (List.mem_of_mem_drop (List.mem_of_mem_take hc))) 8 (by decide), Int.toNat_natCast]
      · rw [if_neg h3, if_neg h3]
theorem rrf_l0 (B : List Nat) (hB : ∀ c ∈ B, c < 256) (hl : B.length ≤ 4611686018427387904) (a : Nat) (ha : a + 8 ≤ B.length) : ∀ (d i : Nat), i + d = 8 →
    Ev (fun k => endonymref1_ReadFloat.l0 k (ints B) (a : Int) (rf (ints ((B.drop a).take 8)) i) (i : Int)) (((val ((B.drop a).take 8) 8 : Nat) : Int), (a : Int) + 8, 0) := by
  intro d
  induction d with
  | zero =>
    intro i hi
    obtain rfl : i = 8 := by omega
    refine Ev.step (fun k => ?_) (Ev.now _)
    simp only [endonymref1_ReadFloat.l0]
    rw [if_neg (by omega), rf_val (fun c hc => hB c (List.mem_of_mem_drop (List.mem_of_mem_take hc))) 8 (by decide), w64 _ (by omega) (by omega)]
  | succ d ih =>
    intro i hi
    have e1 : IntKind.u64.wrap (wrap64 (8 * (i : Int))) = 8 * (i : Int) := by rw [w64 _ (by omega) (by omega), u64w _ (by omega) (by omega)]
    have e2 : wrap64 ((a : Int) + (i : Int)) = ((a + i : Nat) : Int) := by rw [w64 _ (by omega) (by omega)]; omega
    have e3 : rd (ints ((B.drop a).take 8)) (i : Int) = rd (ints B) ((a + i : Nat) : Int) := by
      rw [rd_ints, rd_ints]
      congr 1
      simp [List.getD_eq_getElem?_getD, List.getElem?_drop, show i < 8 by omega]
    have e4 : shl .u64 (IntKind.u64.wrap (rd (ints B) ((a + i : Nat) : Int))) (8 * (i : Int)) = IntKind.u64.wrap (IntKind.u64.wrap (rd (ints B) ((a + i : Nat) : Int)) * 2 ^ (8 * i)) := by
      unfold shl
      have e : min (8 * (i : Int)).toNat IntKind.u64.bits = 8 * i := by
        have : IntKind.u64.bits = 64 := rfl
        omega
      rw [e]
    have h := ih (i + 1) (by omega)
    rw [rf, e3] at h
    refine Ev.step (fun k => ?_) h
    simp only [endonymref1_ReadFloat.l0]
    rw [if_pos (by omega), e2, if_pos (by omega), if_pos (by rw [ints_length]; omega), e1, if_pos (by omega), e4, w64 ((i : Int) + 1) (by omega) (by omega)]
    rfl
theorem rrf_is (B : List Nat) (hB : ∀ c ∈ B, c < 256) (hl : B.length ≤ 4611686018427387904) (at_ : Int) : Ev (fun k => endonymref1_ReadFloat.f k (ints B) at_) (((readf B at_).1 : Int), (readf B at_).2.1, (readf B at_).2.2) := by
  unfold readf
  have hbad : Ev (fun k => endonymref1_ReadFloat.j0 k (ints B) at_ true) (((0 : Nat) : Int), 0, 1) := by
    refine Ev.step (fun k => ?_) (Ev.now _)
    simp only [endonymref1_ReadFloat.j0]
    rw [if_pos trivial]
    rfl
  by_cases h1 : at_ < 0
  · rw [if_pos (.inl h1)]
    refine Ev.congr (fun k => ?_) hbad
    unfold endonymref1_ReadFloat.f
    rw [if_pos h1]
  by_cases h2 : at_ > (B.length : Int)
  · rw [if_pos (.inr h2)]
    refine Ev.congr (fun k => ?_) hbad
    unfold endonymref1_ReadFloat.f
    rw [ints_length, if_neg h1, decide_eq_true h2]
  rw [if_neg (by omega)]
  obtain ⟨a, rfl⟩ := Int.eq_ofNat_of_zero_le (Int.not_lt.1 h1)
  refine Ev.congr (f := fun k => endonymref1_ReadFloat.j0 k (ints B) (a : Int) false) (fun k => ?_) ?_
  · unfold endonymref1_ReadFloat.f
    rw [ints_length, if_neg h1, decide_eq_false h2]
  by_cases h3 : (a : Int) + 8 ≤ (B.length : Int)
  · rw [if_pos h3, Int.toNat_natCast]
    refine Ev.step (fun k => ?_) (rrf_l0 B hB hl a (by omega) 8 0 (by omega))
    simp only [endonymref1_ReadFloat.j0]
    rw [if_neg (by decide), ints_length, w64 _ (by omega) (by omega), if_neg (by omega)]
    rfl
  · rw [if_neg h3]
    refine Ev.step (fun k => ?_) (Ev.now _)
    simp only [endonymref1_ReadFloat.j0]
    rw [if_neg (by decide), ints_length, w64 _ (by omega) (by omega), if_pos (by omega)]
    rfl
theorem readf_f8 (A R : List Nat) (u : Nat) (hu : u < 18446744073709551616) : readf (A ++ f8 u ++ R) (A.length : Int) = (u, (A.length : Int) + 8, 0) := by
  unfold readf
  rw [if_neg (by simp; omega), if_pos (by simp [f8_length]; omega), Int.toNat_natCast, List.append_assoc, List.drop_left, List.take_append_of_le_length (by rw [f8_length]; omega), List.take_of_length_le (by rw [f8_length]; omega), val_f8 u 8 (by decide), Nat.mod_eq_of_lt (by omega)]
end Go.Proofs.Ytgjmollnjlkjhaa.FloatLaw
