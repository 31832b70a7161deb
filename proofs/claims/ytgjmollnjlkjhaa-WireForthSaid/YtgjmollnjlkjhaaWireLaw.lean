/- What the printed readers and writers of numbers come to, in plain lists of natural numbers: the program's and the document's alike; what is written is read, what is read is written just so, a beginning is too short. -/
import Derived.Test.YtgjmollnjlkjhaaQx1
import Derived.Test.YtgjmollnjlkjhaaQx2
import Derived.Test.YtgjmollnjlkjhaaQx3
import Derived.Test.YtgjmollnjlkjhaaBase
namespace Go.Proofs.Ytgjmollnjlkjhaa.WireLaw
open Go Go.RowKit Go.Proofs.Ytgjmollnjlkjhaa.Q Go.Proofs.YtgjmollnjlkjhaaW.PrintWords Go.Proofs.YtgjmollnjlkjhaaW.PrintLast Go.Proofs.YtgjmollnjlkjhaaW.PrintMore Go.Proofs.Ytgjmollnjlkjhaa.Base
set_option linter.unusedVariables false

/-! ### Plain: numbers as bytes -/
def encF : Nat → Nat → List Nat
  | 0, n => [n]
  | j + 1, n => if n < 128 then [n] else (n % 128 + 128) :: encF j (n / 128)
/-- A number's bytes. -/
def enc (n : Nat) : List Nat := encF 8 n
/-- Reading: d bytes at most, i have been read, acc is what they say; the number, how many bytes, the error. -/
def rdu : Nat → List Nat → Nat → Nat → Nat × Nat × Nat
  | 0, _, _, _ => (0, 0, 11)
  | _ + 1, [], _, _ => (0, 0, 10)
  | d + 1, c :: r, i, acc => if c < 128 then (if c = 0 ∧ 0 < i then (0, 0, 12) else (acc + c * 128 ^ i, i + 1, 0)) else rdu d r (i + 1) (acc + (c - 128) * 128 ^ i)
theorem encF_lt (j : Nat) : ∀ n, n < 128 ^ (j + 1) → ∀ c ∈ encF j n, c < 256 := by
  induction j with
  | zero => intro n hn c hc; simp [encF] at hc; omega
  | succ j ih =>
    intro n hn c hc
    unfold encF at hc
    split at hc
    · simp at hc; omega
    · rcases List.mem_cons.1 hc with h | h
      · omega
      · exact ih (n / 128) (by rw [Nat.pow_succ] at hn; omega) c h
theorem encF_len (j n : Nat) : 0 < (encF j n).length ∧ (encF j n).length ≤ j + 1 := by
  induction j generalizing n with
  | zero => simp [encF]
  | succ j ih =>
    unfold encF
    split
    · simp
    · have := ih (n / 128)
      simp only [List.length_cons]
      omega
theorem rdu_enc (j : Nat) : ∀ (n d i acc : Nat) (rest : List Nat), n < 128 ^ (j + 1) → j < d → (0 < n ∨ i = 0) → rdu d (encF j n ++ rest) i acc = (acc + n * 128 ^ i, i + (encF j n).length, 0) := by
  induction j with
  | zero =>
    intro n d i acc rest hn hd h0
    obtain ⟨d, rfl⟩ : ∃ e, d = e + 1 := ⟨d - 1, by omega⟩
    simp only [encF, List.singleton_append, rdu, List.length_singleton]
    rw [if_pos (by omega), if_neg (by omega)]
  | succ j ih =>
    intro n d i acc rest hn hd h0
    obtain ⟨d, rfl⟩ : ∃ e, d = e + 1 := ⟨d - 1, by omega⟩
    by_cases h : n < 128
    · simp only [encF, if_pos h, List.singleton_append, rdu, List.length_singleton]
      rw [if_neg (by omega)]
    · have h2 : n / 128 < 128 ^ (j + 1) := by rw [Nat.pow_succ] at hn; omega
      simp only [encF, if_neg h, List.cons_append, rdu, List.length_cons]
      rw [if_neg (by omega), ih (n / 128) d (i + 1) _ rest h2 (by omega) (by omega)]
      refine Prod.ext ?_ (Prod.ext ?_ rfl)
      · show acc + (n % 128 + 128 - 128) * 128 ^ i + n / 128 * 128 ^ (i + 1) = acc + n * 128 ^ i
        have h3 : n = n % 128 + 128 * (n / 128) := by omega
        rw [Nat.pow_succ, Nat.add_sub_cancel]
        conv => rhs; rw [h3]
        rw [Nat.add_mul, Nat.add_assoc]
        congr 2
        rw [Nat.mul_comm (128 ^ i) 128, ← Nat.mul_assoc, Nat.mul_comm (n / 128) 128]
      · show i + 1 + _ = i + (_ + 1)
        omega
theorem rdu_short (j : Nat) : ∀ (n d i acc m : Nat), j < d → m < (encF j n).length → rdu d ((encF j n).take m) i acc = (0, 0, 10) := by
  induction j with
  | zero =>
    intro n d i acc m hd hm
    obtain ⟨d, rfl⟩ : ∃ e, d = e + 1 := ⟨d - 1, by omega⟩
    have : m = 0 := by simp [encF] at hm; omega
    subst this
    rfl
  | succ j ih =>
    intro n d i acc m hd hm
    obtain ⟨d, rfl⟩ : ∃ e, d = e + 1 := ⟨d - 1, by omega⟩
    rcases m with _ | m
    · rw [List.take_zero]; rfl
    · by_cases h : n < 128
      · simp [encF, if_pos h] at hm
      · simp only [encF, if_neg h, List.length_cons] at hm
        simp only [encF, if_neg h, List.take_succ_cons, rdu]
        rw [if_neg (by omega)]
        exact ih (n / 128) d (i + 1) _ m (by omega) (by omega)
/-- What is read is written just so. -/
theorem rdu_back : ∀ (d : Nat) (B : List Nat) (i acc n u : Nat), (∀ c ∈ B, c < 256) → rdu d B i acc = (n, u, 0) → ∃ m j, n = acc + m * 128 ^ i ∧ j < d ∧ m < 128 ^ (j + 1) ∧ u = i + (encF j m).length ∧ (encF j m).length = j + 1 ∧ B.take (j + 1) = encF j m ∧ j < B.length ∧ (0 < m ∨ i = 0) := by
  intro d
  induction d with
  | zero => intro B i acc n u hB h; simp [rdu] at h
  | succ d ih =>
    intro B i acc n u hB h
    rcases B with _ | ⟨c, r⟩
    · simp [rdu] at h
    · simp only [rdu] at h
      by_cases hc : c < 128
      · rw [if_pos hc] at h
        by_cases h0 : c = 0 ∧ 0 < i
        · rw [if_pos h0] at h; simp at h
        · rw [if_neg h0] at h
          simp only [Prod.mk.injEq, and_true] at h
          exact ⟨c, 0, h.1.symm, by omega, by omega, by simp [encF, ← h.2], rfl, by simp [encF], by simp, by omega⟩
      · rw [if_neg hc] at h
        have hc2 : c < 256 := hB c List.mem_cons_self
        obtain ⟨m, j, h1, h2, h3, h4, h5, h6, h7, h8⟩ := ih r (i + 1) _ n u (fun x hx => hB x (List.mem_cons_of_mem _ hx)) h
        have hm : 0 < m := by omega
        have e1 : (128 * m + (c - 128)) / 128 = m := by omega
        have e2 : (128 * m + (c - 128)) % 128 = c - 128 := by omega
        have e3 : encF (j + 1) (128 * m + (c - 128)) = c :: encF j m := by
          simp only [encF]
          rw [if_neg (by omega), e1, e2, show c - 128 + 128 = c by omega]
        refine ⟨128 * m + (c - 128), j + 1, ?_, by omega, ?_, ?_, ?_, ?_, ?_, by omega⟩
        · have e5 : m * (128 ^ i * 128) = 128 * m * 128 ^ i := by rw [Nat.mul_comm (128 ^ i) 128, ← Nat.mul_assoc, Nat.mul_comm m 128]
          rw [h1, Nat.pow_succ, e5, Nat.add_mul]
          omega
        · rw [Nat.pow_succ]; omega
        · rw [e3, h4, List.length_cons]; omega
        · rw [e3, List.length_cons, h5]
        · rw [e3, List.take_succ_cons, h6]
        · rw [List.length_cons]; omega
/-- How many rounds the writer has does not matter. -/
theorem encF_more : ∀ (j k n : Nat), n < 128 ^ (j + 1) → j ≤ k → encF k n = encF j n := by
  intro j
  induction j with
  | zero =>
    intro k n hn hk
    rcases k with _ | k
    · rfl
    · simp only [encF]; rw [if_pos (by omega)]
  | succ j ih =>
    intro k n hn hk
    obtain ⟨k, rfl⟩ : ∃ e, k = e + 1 := ⟨k - 1, by omega⟩
    simp only [encF]
    by_cases h : n < 128
    · rw [if_pos h, if_pos h]
    · rw [if_neg h, if_neg h, ih k (n / 128) (by rw [Nat.pow_succ] at hn; omega) (by omega)]

/-! ### The printed writers -/
theorem wraps_i64 (n : Int) (h₀ : 0 ≤ n) (h₁ : n < 2 ^ 63) : IntKind.i64.wrap n = n := by rw [IntKind.wrap_i64]; omega
theorem or128 (y : Int) (h0 : 0 ≤ y) (h1 : y < 128) : bits .or .i64 y 128 = y + 128 := by
  have hc : bits .or .i64 y 128 = bits .or .i64 128 y := by simp only [bits, BitVec.or_comm]
  rw [hc, bits_join .i64 63 (by decide) wraps_i64 7 128 y (by decide) (by decide) (by decide) h0 (by omega) (by omega)]
  omega
theorem ints_append (a b : List Nat) : ints (a ++ b) = ints a ++ ints b := by simp [ints]
theorem uint_l0 (j : Nat) : ∀ (n : Nat) (acc : List Nat), n < 128 ^ (j + 1) → acc.length + j + 1 < 140737488355328 → Ev (fun k => wire_Uint.l0 k (n : Int) (ints acc)) (ints (acc ++ encF j n)) := by
  induction j with
  | zero =>
    intro n acc hn hl
    refine Ev.step (fun k => ?_) (Ev.now _)
    simp only [wire_Uint.l0]
    rw [if_neg (by omega), if_pos (by rw [ints_length]; omega)]
    have : (n : Int) % 256 = ((n : Nat) : Int) := by omega
    rw [this, ints_append]
    rfl
  | succ j ih =>
    intro n acc hn hl
    by_cases h : n < 128
    · refine Ev.step (fun k => ?_) (Ev.now _)
      simp only [wire_Uint.l0]
      rw [if_neg (by omega), if_pos (by rw [ints_length]; omega)]
      have : (n : Int) % 256 = ((n : Nat) : Int) := by omega
      rw [this, ints_append, encF, if_pos h]
      rfl
    · have h2 : n / 128 < 128 ^ (j + 1) := by rw [Nat.pow_succ] at hn; omega
      have h3 := ih (n / 128) (acc ++ [n % 128 + 128]) h2 (by simp; omega)
      rw [List.append_assoc, List.singleton_append] at h3
      rw [encF, if_neg h]
      refine Ev.step (fun k => ?_) h3
      simp only [wire_Uint.l0]
      rw [if_pos (by omega), if_pos (by rw [ints_length]; omega), i64_and127, or128 _ (by omega) (by omega)]
      have e1 : ((n : Int) % 128 + 128) % 256 = ((n % 128 + 128 : Nat) : Int) := by omega
      have e2 : (n : Int) / 128 = ((n / 128 : Nat) : Int) := by omega
      rw [e1, e2, ints_append]
      rfl
theorem uint_is (n : Nat) (hn : n < 9223372036854775808) : Ev (fun k => wire_Uint.f k (n : Int)) (ints (enc n)) := by
  refine Ev.congr (fun k => ?_) (uint_l0 8 n [] (by omega) (by simp))
  unfold wire_Uint.f
  rw [if_neg (by omega)]
  rfl
theorem uint_neg (n : Int) (hn : n < 0) : Ev (fun k => wire_Uint.f k n) [] := by
  refine Ev.congr (fun k => ?_) (Ev.now _)
  unfold wire_Uint.f
  rw [if_pos hn]
theorem ruint_l0 (j : Nat) : ∀ (n : Nat) (acc : List Nat), n < 9223372036854775808 → n < 128 ^ (j + 1) → acc.length + j + 1 < 140737488355328 → Ev (fun k => endonymref1_Uint.l0 k (n : Int) (ints acc)) (ints (acc ++ encF j n)) := by
  induction j with
  | zero =>
    intro n acc _ hn hl
    refine Ev.step (fun k => ?_) (Ev.now _)
    simp only [endonymref1_Uint.l0]
    rw [if_neg (by omega), if_pos (by omega), if_pos (by rw [ints_length]; omega)]
    have : (n : Int) % 256 = ((n : Nat) : Int) := by omega
    rw [this, ints_append]
    rfl
  | succ j ih =>
    intro n acc hb hn hl
    by_cases h : n < 128
    · refine Ev.step (fun k => ?_) (Ev.now _)
      simp only [endonymref1_Uint.l0]
      rw [if_neg (by omega), if_pos (by omega), if_pos (by rw [ints_length]; omega)]
      have : (n : Int) % 256 = ((n : Nat) : Int) := by omega
      rw [this, ints_append, encF, if_pos h]
      rfl
    · have h2 : n / 128 < 128 ^ (j + 1) := by rw [Nat.pow_succ] at hn; omega
      have h3 := ih (n / 128) (acc ++ [n % 128 + 128]) (by omega) h2 (by simp; omega)
      rw [List.append_assoc, List.singleton_append] at h3
      rw [encF, if_neg h]
      refine Ev.step (fun k => ?_) h3
      simp only [endonymref1_Uint.l0]
      have e0 : Int.tdiv (n : Int) 128 = ((n / 128 : Nat) : Int) := rfl
      have e3 : Int.tmod (n : Int) 128 = ((n % 128 : Nat) : Int) := rfl
      rw [if_pos (by omega), if_pos (by rw [ints_length]; omega), e0, e3, w64 _ (by omega) (by omega), w64 _ (by omega) (by omega)]
      have e1 : (((n % 128 : Nat) : Int) + 128) % 256 = ((n % 128 + 128 : Nat) : Int) := by omega
      rw [e1, ints_append]
      rfl
theorem ruint_is (n : Nat) (hn : n < 9223372036854775808) : Ev (fun k => endonymref1_Uint.f k (n : Int)) (ints (enc n)) :=
  Ev.congr (fun k => rfl) (ruint_l0 8 n [] hn (by omega) (by simp))
theorem ruint_neg (n : Int) (hn : n < 0) : Ev (fun k => endonymref1_Uint.f k n) [] := by
  refine Ev.step (fun k => ?_) (Ev.now _)
  simp only [endonymref1_Uint.f, endonymref1_Uint.l0]
  rw [if_neg (by omega), if_neg (by omega)]

/-! ### The printed readers -/
/-- What a reader tells: the place behind the number. -/
def told_ (at_ : Nat) (x : Nat × Nat × Nat) : Int × Int × Int := ((x.1 : Int), if x.2.2 = 0 then ((at_ + x.2.1 : Nat) : Int) else 0, (x.2.2 : Int))
theorem and127u8 (c : Nat) (h : c < 256) : bits .and .u8 (c : Int) 127 = ((c % 128 : Nat) : Int) := by
  have := u8_and_nat c 127 h (by decide)
  rw [nat_mask7] at this
  exact this
theorem pow7 (i : Nat) : (2 : Nat) ^ (7 * i) = 128 ^ i := by rw [Nat.pow_mul]
theorem pow_bound {i : Nat} (h : i ≤ 8) : 128 ^ i * 128 ≤ 9223372036854775808 := by
  have : 128 ^ i ≤ 128 ^ 8 := Nat.pow_le_pow_right (by decide) h
  have h8 : (128 : Nat) ^ 8 = 72057594037927936 := by decide
  omega
theorem shl7 (c i : Nat) (hc : c < 128) (hi : i ≤ 8) : shl .i64 (c : Int) (7 * (i : Int)) = ((c * 128 ^ i : Nat) : Int) := by
  unfold shl
  have e : min (7 * (i : Int)).toNat IntKind.i64.bits = 7 * i := by
    have : IntKind.i64.bits = 64 := rfl
    omega
  have h1 : c * 128 ^ i ≤ 127 * 128 ^ i := Nat.mul_le_mul_right _ (by omega)
  have h2 := pow_bound hi
  rw [e, show ((2 : Int) ^ (7 * i)) = ((2 ^ (7 * i) : Nat) : Int) by simp, pow7, ← Int.natCast_mul, wraps_i64 _ (by omega) (by omega)]
theorem or_acc (acc c i : Nat) (ha : acc < 128 ^ i) (hc : c < 128) (hi : i ≤ 8) : bits .or .i64 (acc : Int) ((c * 128 ^ i : Nat) : Int) = ((acc + c * 128 ^ i : Nat) : Int) := by
  have hk : bits .or .i64 (acc : Int) ((c * 128 ^ i : Nat) : Int) = bits .or .i64 ((c * 128 ^ i : Nat) : Int) (acc : Int) := by simp only [bits, BitVec.or_comm]
  have h1 : c * 128 ^ i ≤ 127 * 128 ^ i := Nat.mul_le_mul_right _ (by omega)
  have h2 := pow_bound hi
  have hp : ((2 : Int) ^ (7 * i)) = ((128 ^ i : Nat) : Int) := by rw [← pow7]; simp
  rw [hk, bits_join .i64 63 (by decide) wraps_i64 (7 * i) _ _ (by omega) (by rw [hp, ← Int.natCast_emod, Nat.mul_mod_left]; rfl) (by omega) (by omega) (by rw [hp]; omega) (by omega)]
  omega
theorem acc_next {acc c i : Nat} (ha : acc < 128 ^ i) (hc : c < 128) : acc + c * 128 ^ i < 128 ^ (i + 1) := by
  rw [Nat.pow_succ]
  have h1 : c * 128 ^ i ≤ 127 * 128 ^ i := Nat.mul_le_mul_right _ (by omega)
  omega
theorem read_l0 (B : List Nat) (hB : ∀ c ∈ B, c < 256) (hl : B.length ≤ 4611686018427387904) (at_ : Nat) : ∀ (d i acc : Nat), i + d = 9 → acc < 128 ^ i → at_ + i ≤ B.length →
    Ev (fun k => wire_ReadUint.l0 k (ints B) (at_ : Int) (acc : Int) (i : Int)) (told_ at_ (rdu d (B.drop (at_ + i)) i acc)) := by
  intro d
  induction d with
  | zero =>
    intro i acc hi ha hat
    refine Ev.step (fun k => ?_) (Ev.now _)
    simp only [wire_ReadUint.l0]
    rw [if_neg (by omega)]
    rfl
  | succ d ih =>
    intro i acc hi ha hat
    have e1 : wrap64 ((at_ : Int) + (i : Int)) = ((at_ + i : Nat) : Int) := by rw [w64 _ (by omega) (by omega)]; omega
    by_cases hend : at_ + i = B.length
    · refine Ev.step (fun k => ?_) (Ev.now _)
      simp only [wire_ReadUint.l0]
      rw [if_pos (by omega), e1, if_pos (by rw [ints_length]; omega), List.drop_of_length_le (by omega)]
      rfl
    · have hlt : at_ + i < B.length := by omega
      have hc : B.getD (at_ + i) 0 < 256 := getD_lt hB (by decide) _
      have hd : B.drop (at_ + i) = B.getD (at_ + i) 0 :: B.drop (at_ + (i + 1)) := by
        rw [List.drop_eq_getElem_cons hlt, List.getD_eq_getElem?_getD, List.getElem?_eq_getElem hlt]; rfl
      have e2 : wrap64 (7 * (i : Int)) = 7 * (i : Int) := w64 _ (by omega) (by omega)
      have e5 : wrap64 ((B.getD (at_ + i) 0 % 128 : Nat) : Int) = ((B.getD (at_ + i) 0 % 128 : Nat) : Int) := w64 _ (by omega) (by omega)
      have e3 : bits .or .i64 (acc : Int) (shl .i64 (wrap64 (bits .and .u8 ((B.getD (at_ + i) 0 : Nat) : Int) 127)) (7 * (i : Int))) = ((acc + B.getD (at_ + i) 0 % 128 * 128 ^ i : Nat) : Int) := by
        rw [and127u8 _ hc, e5, shl7 _ _ (Nat.mod_lt _ (by decide)) (by omega), or_acc _ _ _ ha (Nat.mod_lt _ (by decide)) (by omega)]
      rw [hd]
      by_cases hs : B.getD (at_ + i) 0 < 128
      · refine Ev.step (fun k => ?_) (Ev.now _)
        simp only [wire_ReadUint.l0]
        rw [if_pos (by omega), e1, if_neg (by rw [ints_length]; omega), if_pos (by omega), if_pos (by rw [ints_length]; omega), e2, if_pos (by omega), rd_ints, if_pos (by omega), e3]
        simp only [rdu, if_pos hs]
        by_cases h0 : B.getD (at_ + i) 0 = 0
        · rw [if_pos (by omega)]
          by_cases hi0 : 0 < i
          · rw [if_pos (by omega), if_pos ⟨h0, hi0⟩]
            rfl
          · rw [if_neg (by omega), if_neg (by omega), w64 _ (by omega) (by omega), Nat.mod_eq_of_lt hs]
            simp only [told_, if_true]
            congr 3
        · rw [if_neg (by omega), if_neg (by omega), w64 _ (by omega) (by omega), Nat.mod_eq_of_lt hs]
          simp only [told_, if_true]
          congr 3
      · have h3 := ih (i + 1) (acc + B.getD (at_ + i) 0 % 128 * 128 ^ i) (by omega) (acc_next ha (Nat.mod_lt _ (by decide))) (by omega)
        have e4 : B.getD (at_ + i) 0 % 128 = B.getD (at_ + i) 0 - 128 := by omega
        simp only [rdu, if_neg hs]
        rw [← e4]
        refine Ev.step (fun k => ?_) h3
        simp only [wire_ReadUint.l0]
        rw [if_pos (by omega), e1, if_neg (by rw [ints_length]; omega), if_pos (by omega), if_pos (by rw [ints_length]; omega), e2, if_pos (by omega), rd_ints, if_neg (by omega), e3, w64 ((i : Int) + 1) (by omega) (by omega)]
        rfl
/-- The document's and the program's reading at any place. -/
def readu (B : List Nat) (at_ : Int) : Int × Int × Int := if at_ < 0 ∨ at_ > (B.length : Int) then (0, 0, 1) else told_ at_.toNat (rdu 9 (B.drop at_.toNat) 0 0)
theorem read_is (B : List Nat) (hB : ∀ c ∈ B, c < 256) (hl : B.length ≤ 4611686018427387904) (at_ : Int) : Ev (fun k => wire_ReadUint.f k (ints B) at_) (readu B at_) := by
  unfold readu
  by_cases h1 : at_ < 0
  · rw [if_pos (.inl h1)]
    refine Ev.step (fun k => ?_) (Ev.now _)
    unfold wire_ReadUint.f
    rw [if_pos h1]
    simp only [wire_ReadUint.j0]
    rw [if_pos trivial]
  · by_cases h2 : at_ > (B.length : Int)
    · rw [if_pos (.inr h2)]
      refine Ev.step (fun k => ?_) (Ev.now _)
      unfold wire_ReadUint.f
      rw [if_neg h1, decide_eq_true (by rw [ints_length]; exact h2)]
      simp only [wire_ReadUint.j0]
      rw [if_pos trivial]
    · rw [if_neg (by omega)]
      obtain ⟨a, rfl⟩ := Int.eq_ofNat_of_zero_le (Int.not_lt.1 h1)
      have h3 := read_l0 B hB hl a 9 0 0 (by omega) (by decide) (by omega)
      refine Ev.step (fun k => ?_) h3
      unfold wire_ReadUint.f
      rw [if_neg h1, decide_eq_false (by rw [ints_length]; exact h2)]
      simp only [wire_ReadUint.j0]
      rw [if_neg (by decide)]
      rfl
theorem rread_l0 (B : List Nat) (hB : ∀ c ∈ B, c < 256) (hl : B.length ≤ 4611686018427387904) (at_ : Nat) : ∀ (d i acc : Nat), i + d = 9 → acc < 128 ^ i → at_ + i ≤ B.length →
    Ev (fun k => endonymref1_ReadUint.l0 k (ints B) (at_ : Int) (acc : Int) (i : Int)) (told_ at_ (rdu d (B.drop (at_ + i)) i acc)) := by
  intro d
  induction d with
  | zero =>
    intro i acc hi ha hat
    refine Ev.step (fun k => ?_) (Ev.now _)
    simp only [endonymref1_ReadUint.l0]
    rw [if_neg (by omega)]
    rfl
  | succ d ih =>
    intro i acc hi ha hat
    have e1 : wrap64 ((at_ : Int) + (i : Int)) = ((at_ + i : Nat) : Int) := by rw [w64 _ (by omega) (by omega)]; omega
    by_cases hend : at_ + i = B.length
    · refine Ev.step (fun k => ?_) (Ev.now _)
      simp only [endonymref1_ReadUint.l0]
      rw [if_pos (by omega), e1, if_pos (by rw [ints_length]; omega), List.drop_of_length_le (by omega)]
      rfl
    · have hlt : at_ + i < B.length := by omega
      have hc : B.getD (at_ + i) 0 < 256 := getD_lt hB (by decide) _
      have hd : B.drop (at_ + i) = B.getD (at_ + i) 0 :: B.drop (at_ + (i + 1)) := by
        rw [List.drop_eq_getElem_cons hlt, List.getD_eq_getElem?_getD, List.getElem?_eq_getElem hlt]; rfl
      have e2 : IntKind.u64.wrap (wrap64 (7 * (i : Int))) = 7 * (i : Int) := by rw [w64 _ (by omega) (by omega), u64w _ (by omega) (by omega)]
      have e5 : wrap64 ((B.getD (at_ + i) 0 : Nat) : Int) = ((B.getD (at_ + i) 0 : Nat) : Int) := w64 _ (by omega) (by omega)
      have e6 : Int.tmod ((B.getD (at_ + i) 0 : Nat) : Int) 128 = ((B.getD (at_ + i) 0 % 128 : Nat) : Int) := rfl
      have h9 := acc_next ha (Nat.mod_lt (B.getD (at_ + i) 0) (show 0 < 128 by decide))
      have h8 := pow_bound (show i ≤ 8 by omega)
      have h7 : 128 ^ (i + 1) = 128 ^ i * 128 := Nat.pow_succ ..
      have e3 : wrap64 ((acc : Int) + shl .i64 (Int.tmod ((B.getD (at_ + i) 0 : Nat) : Int) 128) (7 * (i : Int))) = ((acc + B.getD (at_ + i) 0 % 128 * 128 ^ i : Nat) : Int) := by
        rw [e6, shl7 _ _ (Nat.mod_lt _ (by decide)) (by omega), ← Int.natCast_add, w64 _ (by omega) (by omega)]
      rw [hd]
      by_cases hs : B.getD (at_ + i) 0 < 128
      · refine Ev.step (fun k => ?_) (Ev.now _)
        simp only [endonymref1_ReadUint.l0]
        rw [if_pos (by omega), e1, if_neg (by rw [ints_length]; omega), if_pos (by omega), if_pos (by rw [ints_length]; omega), e2, if_pos (by omega), rd_ints, e5, if_pos (by omega), e3]
        simp only [rdu, if_pos hs]
        by_cases h0 : B.getD (at_ + i) 0 = 0
        · rw [if_pos (by omega)]
          by_cases hi0 : 0 < i
          · rw [if_pos (by omega), if_pos ⟨h0, hi0⟩]
            rfl
          · rw [if_neg (by omega), if_neg (by omega), w64 _ (by omega) (by omega), Nat.mod_eq_of_lt hs]
            simp only [told_, if_true]
            congr 3
        · rw [if_neg (by omega), if_neg (by omega), w64 _ (by omega) (by omega), Nat.mod_eq_of_lt hs]
          simp only [told_, if_true]
          congr 3
      · have h3 := ih (i + 1) (acc + B.getD (at_ + i) 0 % 128 * 128 ^ i) (by omega) h9 (by omega)
        have e4 : B.getD (at_ + i) 0 % 128 = B.getD (at_ + i) 0 - 128 := by omega
        simp only [rdu, if_neg hs]
        rw [← e4]
        refine Ev.step (fun k => ?_) h3
        simp only [endonymref1_ReadUint.l0]
        rw [if_pos (by omega), e1, if_neg (by rw [ints_length]; omega), if_pos (by omega), if_pos (by rw [ints_length]; omega), e2, if_pos (by omega), rd_ints, e5, if_neg (by omega), e3, w64 ((i : Int) + 1) (by omega) (by omega)]
        rfl
theorem rread_is (B : List Nat) (hB : ∀ c ∈ B, c < 256) (hl : B.length ≤ 4611686018427387904) (at_ : Int) : Ev (fun k => endonymref1_ReadUint.f k (ints B) at_) (readu B at_) := by
  unfold readu
  by_cases h1 : at_ < 0
  · rw [if_pos (.inl h1)]
    refine Ev.step (fun k => ?_) (Ev.now _)
    unfold endonymref1_ReadUint.f
    rw [if_pos h1]
    simp only [endonymref1_ReadUint.j0]
    rw [if_pos trivial]
  · by_cases h2 : at_ > (B.length : Int)
    · rw [if_pos (.inr h2)]
      refine Ev.step (fun k => ?_) (Ev.now _)
      unfold endonymref1_ReadUint.f
      rw [if_neg h1, decide_eq_true (by rw [ints_length]; exact h2)]
      simp only [endonymref1_ReadUint.j0]
      rw [if_pos trivial]
    · rw [if_neg (by omega)]
      obtain ⟨a, rfl⟩ := Int.eq_ofNat_of_zero_le (Int.not_lt.1 h1)
      have h3 := rread_l0 B hB hl a 9 0 0 (by omega) (by decide) (by omega)
      refine Ev.step (fun k => ?_) h3
      unfold endonymref1_ReadUint.f
      rw [if_neg h1, decide_eq_false (by rw [ints_length]; exact h2)]
      simp only [endonymref1_ReadUint.j0]
      rw [if_neg (by decide)]
      rfl
end Go.Proofs.Ytgjmollnjlkjhaa.WireLaw
