/- The check sum CRC-32C over bits: its register is a linear map that loses nothing; one to three bits turned over, or bits within 32 that follow one another, change it (at most 32,768 bits apart). No program in sight. -/
import Derived.Laws.BitsAllLaws
namespace Go.Proofs.Ytgjmollnjlkjhaa.Crc
set_option linter.unusedVariables false

def P : Nat := 2197175160
/-- One step of the register. -/
def s1 (r : Nat) : Nat := if r % 2 = 1 then (r / 2) ^^^ P else r / 2
def sn : Nat → Nat → Nat
  | 0, r => r
  | n + 1, r => sn n (s1 r)
theorem xor_div2 (a b : Nat) : (a ^^^ b) / 2 = a / 2 ^^^ b / 2 := Nat.xor_div_two
theorem eq_of_xor {a b : Nat} (h : a ^^^ b = 0) : a = b := by
  have h1 : a ^^^ b ^^^ b = a := by rw [Nat.xor_assoc, Nat.xor_self, Nat.xor_zero]
  rw [h, Nat.zero_xor] at h1
  exact h1.symm
theorem xor_mod2 (a b : Nat) : (a ^^^ b) % 2 = (a % 2 + b % 2) % 2 := by
  have h := @Nat.testBit_xor a b 0
  rw [Nat.testBit_zero, Nat.testBit_zero, Nat.testBit_zero] at h
  rcases Nat.mod_two_eq_zero_or_one a with ha | ha <;> rcases Nat.mod_two_eq_zero_or_one b with hb | hb <;> rcases Nat.mod_two_eq_zero_or_one (a ^^^ b) with hc | hc <;> simp [ha, hb, hc] at h ⊢
theorem s1_xor (a b : Nat) : s1 (a ^^^ b) = s1 a ^^^ s1 b := by
  unfold s1
  rw [xor_mod2, xor_div2]
  rcases Nat.mod_two_eq_zero_or_one a with ha | ha <;> rcases Nat.mod_two_eq_zero_or_one b with hb | hb <;> simp only [ha, hb] <;> simp
  · ac_rfl
  · ac_rfl
  · have : a / 2 ^^^ P ^^^ (b / 2 ^^^ P) = (a / 2 ^^^ b / 2) ^^^ (P ^^^ P) := by ac_rfl
    rw [this, Nat.xor_self, Nat.xor_zero]
theorem s1_zero : s1 0 = 0 := rfl
theorem s1_lt {r : Nat} (h : r < 2 ^ 32) : s1 r < 2 ^ 32 := by
  unfold s1
  split
  · exact Nat.xor_lt_two_pow (by omega) (by decide)
  · omega
theorem s1_eq_zero {r : Nat} (h : r < 2 ^ 32) (h0 : s1 r = 0) : r = 0 := by
  unfold s1 at h0
  split at h0
  · have h1 : r / 2 = P := eq_of_xor h0
    have : P = 2197175160 := rfl
    omega
  · omega
theorem sn_zero (n : Nat) : sn n 0 = 0 := by
  induction n with
  | zero => rfl
  | succ n ih => rw [sn, s1_zero, ih]
theorem sn_xor (n a b : Nat) : sn n (a ^^^ b) = sn n a ^^^ sn n b := by
  induction n generalizing a b with
  | zero => rfl
  | succ n ih => rw [sn, s1_xor, ih]; rfl
theorem sn_lt {n r : Nat} (h : r < 2 ^ 32) : sn n r < 2 ^ 32 := by
  induction n generalizing r with
  | zero => exact h
  | succ n ih => exact ih (s1_lt h)
theorem sn_eq_zero {n r : Nat} (h : r < 2 ^ 32) (h0 : sn n r = 0) : r = 0 := by
  induction n generalizing r with
  | zero => exact h0
  | succ n ih => exact s1_eq_zero h (ih (s1_lt h) h0)
theorem sn_add (m n r : Nat) : sn (m + n) r = sn n (sn m r) := by
  induction m generalizing r with
  | zero => rw [Nat.zero_add]; rfl
  | succ m ih => rw [Nat.succ_add, sn, ih]; rfl
theorem sn_pow (m : Nat) : sn m (2 ^ m) = 1 := by
  induction m with
  | zero => rfl
  | succ m ih =>
    have : s1 (2 ^ (m + 1)) = 2 ^ m := by
      unfold s1
      rw [if_neg (by rw [Nat.pow_succ, Nat.mul_mod_left]; decide), Nat.pow_succ, Nat.mul_div_cancel _ (by decide)]
    rw [sn, this, ih]

/-! ### Parity -/
def par : Nat → Nat → Bool
  | 0, _ => false
  | n + 1, r => (r % 2 == 1) ^^ par n (r / 2)
theorem par_xor (n a b : Nat) : par n (a ^^^ b) = (par n a ^^ par n b) := by
  induction n generalizing a b with
  | zero => rfl
  | succ n ih =>
    rw [par, par, par, xor_div2, ih, xor_mod2]
    rcases Nat.mod_two_eq_zero_or_one a with ha | ha <;> rcases Nat.mod_two_eq_zero_or_one b with hb | hb <;> simp [ha, hb]
theorem par_zero (n : Nat) : par n 0 = false := by
  induction n with
  | zero => rfl
  | succ n ih => rw [par, Nat.zero_div, ih]; rfl
theorem par_succ {n r : Nat} (h : r < 2 ^ n) : par (n + 1) r = par n r := by
  induction n generalizing r with
  | zero => obtain rfl : r = 0 := by simpa using h
            rfl
  | succ n ih => rw [par, ih (by rw [Nat.pow_succ] at h; omega)]; rfl
theorem par_s1 {r : Nat} (h : r < 2 ^ 32) : par 32 (s1 r) = par 32 r := by
  have h2 : par 32 (r / 2) = par 31 (r / 2) := par_succ (by omega)
  have hP : par 32 P = true := by decide
  rw [show par 32 r = ((r % 2 == 1) ^^ par 31 (r / 2)) from rfl]
  unfold s1
  split
  · rename_i h1
    rw [par_xor, h2, hP, h1]
    cases par 31 (r / 2) <;> rfl
  · rename_i h1
    have : r % 2 = 0 := by omega
    rw [h2, this]
    cases par 31 (r / 2) <;> rfl
theorem par_sn {n r : Nat} (h : r < 2 ^ 32) : par 32 (sn n r) = par 32 r := by
  induction n generalizing r with
  | zero => rfl
  | succ n ih => rw [sn, ih (s1_lt h), par_s1 h]

/-! ### No two bits cancel: 1 does not come back within 32,768 steps -/
/-- 2^n steps from r: where they end, and whether 1 was met. -/
def walk : Nat → Nat → (Nat → Bool) → Bool
  | 0, r, k => match s1 r with
    | 0 => false
    | v + 1 => if v = 0 then false else k (v + 1)
  | n + 1, r, k => walk n r (fun r' => walk n r' k)
theorem walk_spec (n : Nat) : ∀ (r : Nat) (k : Nat → Bool), walk n r k = true → (∀ d, 0 < d → d ≤ 2 ^ n → sn d r ≠ 1) ∧ k (sn (2 ^ n) r) = true := by
  induction n with
  | zero =>
    intro r k h
    unfold walk at h
    split at h
    · cases h
    · rename_i v hv
      by_cases hv0 : v = 0
      · rw [if_pos hv0] at h
        cases h
      · rw [if_neg hv0] at h
        refine ⟨fun d h0 h1 => ?_, ?_⟩
        · obtain rfl : d = 1 := by omega
          show s1 r ≠ 1
          rw [hv]
          omega
        · show k (s1 r) = true
          rw [hv]
          exact h
  | succ n ih =>
    intro r k h
    obtain ⟨h1, h2⟩ := ih r _ h
    obtain ⟨h3, h4⟩ := ih _ k h2
    have hp : 2 ^ (n + 1) = 2 ^ n + 2 ^ n := by rw [Nat.pow_succ]; omega
    refine ⟨fun d h0 hd => ?_, ?_⟩
    · by_cases hle : d ≤ 2 ^ n
      · exact h1 d h0 hle
      · have := h3 (d - 2 ^ n) (by omega) (by omega)
        rw [← sn_add, Nat.add_sub_cancel' (by omega)] at this
        exact this
    · rw [hp, sn_add]
      exact h4
set_option maxRecDepth 100000 in
theorem walked : walk 15 1 (fun _ => true) = true := by decide +kernel
theorem no_one (d : Nat) (h0 : 0 < d) (h : d ≤ 32768) : sn d 1 ≠ 1 := (walk_spec 15 1 _ walked).1 d h0 h

/-! ### One bit, two, three -/
theorem one_ne (a : Nat) : sn a 1 ≠ 0 := fun h => by have := sn_eq_zero (by decide) h; cases this
theorem two_ne {a b : Nat} (hab : a ≠ b) (ha : a ≤ 32768) (hb : b ≤ 32768) : sn a 1 ^^^ sn b 1 ≠ 0 := by
  have key : ∀ a b : Nat, a < b → b ≤ 32768 → sn a 1 ^^^ sn b 1 ≠ 0 := by
    intro a b hlt hb h
    have h1 : sn b 1 = sn a (sn (b - a) 1) := by rw [← sn_add, Nat.sub_add_cancel (by omega)]
    rw [h1, ← sn_xor] at h
    have h2 := sn_eq_zero (Nat.xor_lt_two_pow (by decide) (sn_lt (by decide))) h
    exact no_one (b - a) (by omega) (by omega) (eq_of_xor h2).symm
  rcases Nat.lt_or_gt_of_ne hab with h | h
  · exact key a b h hb
  · rw [Nat.xor_comm]
    exact key b a h ha
theorem three_ne (a b c : Nat) : sn a 1 ^^^ sn b 1 ^^^ sn c 1 ≠ 0 := fun h => by
  have h1 := congrArg (par 32) h
  rw [par_xor, par_xor, par_sn (by decide), par_sn (by decide), par_sn (by decide), par_zero] at h1
  exact absurd h1 (by decide)

/-! ### Bytes -/
def crc : Nat → List Nat → Nat
  | r, [] => r
  | r, c :: l => crc (sn 8 (r ^^^ c)) l
theorem crc_nil (r : Nat) : crc r [] = r := rfl
theorem crc_cons (r c : Nat) (l : List Nat) : crc r (c :: l) = crc (sn 8 (r ^^^ c)) l := rfl
theorem crc_lt {l : List Nat} {r : Nat} (hr : r < 2 ^ 32) (hl : ∀ c ∈ l, c < 256) : crc r l < 2 ^ 32 := by
  induction l generalizing r with
  | nil => exact hr
  | cons c l ih =>
    rw [crc_cons]
    exact ih (sn_lt (Nat.xor_lt_two_pow hr (Nat.lt_trans (hl c List.mem_cons_self) (by decide)))) (fun x hx => hl x (List.mem_cons_of_mem _ hx))
theorem crc_xor (l : List Nat) (r d : Nat) : crc (r ^^^ d) l = crc r l ^^^ sn (8 * l.length) d := by
  induction l generalizing r d with
  | nil => rfl
  | cons c l ih =>
    have : r ^^^ d ^^^ c = (r ^^^ c) ^^^ d := by ac_rfl
    rw [crc_cons, crc_cons, this, sn_xor, ih, ← sn_add, List.length_cons]
    congr 2
    omega
/-- A bit turned over. -/
def flip (l : List Nat) (q : Nat) : List Nat := l.set (q / 8) (l.getD (q / 8) 0 ^^^ 2 ^ (q % 8))
theorem crc_flip (l : List Nat) (r q : Nat) (hq : q < 8 * l.length) : crc r (flip l q) = crc r l ^^^ sn (8 * l.length - q) 1 := by
  induction l generalizing r q with
  | nil => simp at hq
  | cons c l ih =>
    by_cases h8 : q < 8
    · have e1 : q / 8 = 0 := by omega
      have e2 : q % 8 = q := by omega
      have e3 : flip (c :: l) q = (c ^^^ 2 ^ q) :: l := by simp [flip, e1, e2]
      have e4 : r ^^^ (c ^^^ 2 ^ q) = (r ^^^ c) ^^^ 2 ^ q := by ac_rfl
      have e5 : sn 8 (2 ^ q) = sn (8 - q) 1 := by
        have := sn_add q (8 - q) (2 ^ q)
        rw [Nat.add_sub_cancel' (by omega), sn_pow] at this
        exact this
      rw [e3, crc_cons, crc_cons, e4, sn_xor, e5, crc_xor, ← sn_add, List.length_cons]
      congr 2
      omega
    · have e1 : q / 8 = (q - 8) / 8 + 1 := by omega
      have e2 : q % 8 = (q - 8) % 8 := by omega
      have e3 : flip (c :: l) q = c :: flip l (q - 8) := by simp [flip, e1, e2]
      rw [e3, crc_cons, crc_cons, ih _ _ (by rw [List.length_cons] at hq; omega), List.length_cons]
      congr 2
      omega
theorem flip_length (l : List Nat) (q : Nat) : (flip l q).length = l.length := by simp [flip]
theorem flip_lt {l : List Nat} (hl : ∀ c ∈ l, c < 256) (q : Nat) : ∀ c ∈ flip l q, c < 256 := by
  intro c hc
  rcases List.mem_or_eq_of_mem_set hc with h | h
  · exact hl c h
  · subst h
    refine Nat.xor_lt_two_pow (n := 8) ?_ (Nat.lt_of_lt_of_le (Nat.pow_lt_pow_right (by decide) (Nat.mod_lt q (by decide))) (by decide))
    rw [List.getD_eq_getElem?_getD]
    by_cases h : q / 8 < l.length
    · rw [List.getElem?_eq_getElem h]
      exact hl _ (List.getElem_mem h)
    · rw [List.getElem?_eq_none (by omega)]
      decide
/-- The first m bits of a pattern turned over, from place p on, as far as there are bits. -/
def burst (l : List Nat) (p x : Nat) : Nat → List Nat
  | 0 => l
  | m + 1 => if p + m < 8 * l.length ∧ x.testBit m then flip (burst l p x m) (p + m) else burst l p x m
theorem burst_length (l : List Nat) (p x m : Nat) : (burst l p x m).length = l.length := by
  induction m with
  | zero => rfl
  | succ m ih =>
    unfold burst
    split
    · rw [flip_length, ih]
    · exact ih
theorem burst_lt {l : List Nat} (hl : ∀ c ∈ l, c < 256) (p x m : Nat) : ∀ c ∈ burst l p x m, c < 256 := by
  induction m with
  | zero => exact hl
  | succ m ih =>
    unfold burst
    split
    · exact flip_lt ih _
    · exact ih
/-- What of the pattern counts. -/
def mask (n p x : Nat) : Nat → Nat
  | 0 => 0
  | m + 1 => if p + m < n ∧ x.testBit m then mask n p x m ^^^ 2 ^ m else mask n p x m
theorem mask_lt (n p x m : Nat) : mask n p x m < 2 ^ m := by
  induction m with
  | zero => simp [mask]
  | succ m ih =>
    have hp : (2 : Nat) ^ (m + 1) = 2 ^ m + 2 ^ m := by rw [Nat.pow_succ]; omega
    unfold mask
    split
    · exact Nat.xor_lt_two_pow (by omega) (Nat.pow_lt_pow_right (by decide) (by omega))
    · omega
theorem mask_big {n p x m : Nat} (h : mask n p x m ≠ 0) : p < n := by
  induction m with
  | zero => exact absurd rfl h
  | succ m ih =>
    unfold mask at h
    split at h
    · omega
    · exact ih h
theorem mask_zero {l : List Nat} {p x m : Nat} (h : mask (8 * l.length) p x m = 0) : burst l p x m = l := by
  induction m with
  | zero => rfl
  | succ m ih =>
    unfold mask at h
    unfold burst
    split at h
    · have h1 := mask_lt (8 * l.length) p x m
      have h2 : mask (8 * l.length) p x m = 2 ^ m := eq_of_xor h
      omega
    · rename_i hn
      rw [if_neg hn, ih h]
theorem crc_burst (l : List Nat) (r p x m : Nat) : crc r (burst l p x m) = crc r l ^^^ sn (8 * l.length - p) (mask (8 * l.length) p x m) := by
  induction m with
  | zero => rw [mask, sn_zero, Nat.xor_zero]; rfl
  | succ m ih =>
    unfold burst mask
    by_cases h : p + m < 8 * l.length ∧ x.testBit m
    · rw [if_pos h, if_pos h, crc_flip _ _ _ (by rw [burst_length]; exact h.1), ih, burst_length, sn_xor, Nat.xor_assoc]
      congr 2
      have := sn_add m (8 * l.length - (p + m)) (2 ^ m)
      rw [sn_pow] at this
      rw [← this]
      congr 1
      omega
    · rw [if_neg h, if_neg h, ih]
theorem xor_ne {a b : Nat} (h : b ≠ 0) : a ^^^ b ≠ a := fun e => h (by
  have := congrArg (a ^^^ ·) e
  simpa [← Nat.xor_assoc] using this)
/-- Bits within 32. -/
theorem burst_ne (l : List Nat) (r p x : Nat) : burst l p x 32 = l ∨ crc r (burst l p x 32) ≠ crc r l := by
  by_cases h : mask (8 * l.length) p x 32 = 0
  · exact .inl (mask_zero h)
  · refine .inr ?_
    rw [crc_burst]
    exact xor_ne (fun h0 => h (sn_eq_zero (mask_lt _ _ _ _) h0))
theorem flip1_ne (l : List Nat) (r x : Nat) (hx : x < 8 * l.length) : crc r (flip l x) ≠ crc r l := by
  rw [crc_flip l r x hx]
  exact xor_ne (one_ne _)
theorem flip2_ne (l : List Nat) (r x y : Nat) (hl : l.length ≤ 4096) (hx : x < 8 * l.length) (hy : y < 8 * l.length) (hxy : x ≠ y) : crc r (flip (flip l x) y) ≠ crc r l := by
  rw [crc_flip _ r y (by rw [flip_length]; exact hy), crc_flip l r x hx, flip_length, Nat.xor_assoc]
  exact xor_ne (two_ne (by omega) (by omega) (by omega))
theorem flip3_ne (l : List Nat) (r x y z : Nat) (hx : x < 8 * l.length) (hy : y < 8 * l.length) (hz : z < 8 * l.length) : crc r (flip (flip (flip l x) y) z) ≠ crc r l := by
  rw [crc_flip _ r z (by rw [flip_length, flip_length]; exact hz), crc_flip _ r y (by rw [flip_length]; exact hy), crc_flip l r x hx, flip_length, flip_length, Nat.xor_assoc, Nat.xor_assoc]
  refine xor_ne ?_
  rw [← Nat.xor_assoc]
  exact three_ne _ _ _
end Go.Proofs.Ytgjmollnjlkjhaa.Crc
