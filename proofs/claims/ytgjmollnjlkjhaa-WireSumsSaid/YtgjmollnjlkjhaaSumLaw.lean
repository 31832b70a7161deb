/- What the printed check sums and the turning of a bit come to: the plain CRC of Crc. -/
import Derived.Test.YtgjmollnjlkjhaaQx0
import Derived.Test.YtgjmollnjlkjhaaQx2
import Derived.Test.YtgjmollnjlkjhaaQx3
import Derived.Test.YtgjmollnjlkjhaaCrc
import Derived.Test.YtgjmollnjlkjhaaBase
namespace Go.Proofs.Ytgjmollnjlkjhaa.SumLaw
open Go Go.RowKit Go.Proofs.Ytgjmollnjlkjhaa.Q Go.Proofs.YtgjmollnjlkjhaaW.PrintWords Go.Proofs.YtgjmollnjlkjhaaW.PrintLast Go.Proofs.YtgjmollnjlkjhaaW.PrintMore Go.Proofs.Ytgjmollnjlkjhaa.Base Go.Proofs.Ytgjmollnjlkjhaa.Crc
set_option linter.unusedVariables false

theorem sum_l2 {R : Int} (x9 : List (List Int)) (x10 x11 : Int) (x15 : List Int) (x16 x17 : Int) : ∀ (d : Nat) (j : Int) (r : Nat), r < 4294967296 → 0 ≤ j → j + d = 8 →
    Ev (fun k => wire_Sum.l1 k ((sn d r : Nat) : Int) x9 x10 x11 x15 x16 (wrap64 (x17 + 1))) R → Ev (fun k => wire_Sum.l2 k (r : Int) x9 x10 x11 x15 x16 x17 j) R := by
  intro d
  induction d with
  | zero =>
    intro j r hr hj0 hj h
    refine Ev.step (fun k => ?_) h
    simp only [wire_Sum.l2]
    rw [if_neg (by omega)]
    rfl
  | succ d ih =>
    intro j r hr hj0 hj h
    refine Ev.step (fun k => ?_) (ih (j + 1) (s1 r) (s1_lt hr) (by omega) (by omega) h)
    simp only [wire_Sum.l2]
    rw [if_pos (by omega), u32and1 r hr, w64 (j + 1) (by omega) (by omega)]
    unfold s1
    by_cases hp : r % 2 = 1
    · rw [if_pos (by omega), if_pos hp]
      have := u32_xor_nat (r / 2) P (by omega) (by decide)
      rw [← this]
      rfl
    · rw [if_neg (by omega), if_neg hp]
      rfl
theorem sum_l1 {R : Int} (x9 : List (List Int)) (x10 x11 : Int) (L : List Nat) (hL : ∀ c ∈ L, c < 256) (hn : L.length ≤ 9223372036854775806) : ∀ (d i r : Nat), r < 4294967296 → i + d = L.length →
    Ev (fun k => wire_Sum.l0 k ((crc r (L.drop i) : Nat) : Int) x9 x10 (wrap64 (x11 + 1))) R → Ev (fun k => wire_Sum.l1 k (r : Int) x9 x10 x11 (ints L) (L.length : Int) (i : Int)) R := by
  intro d
  induction d with
  | zero =>
    intro i r hr hi h
    refine Ev.step (fun k => ?_) h
    simp only [wire_Sum.l1]
    rw [if_neg (by omega), List.drop_of_length_le (by omega)]
    rfl
  | succ d ih =>
    intro i r hr hi h
    have hlt : i < L.length := by omega
    have hc : L.getD i 0 < 256 := getD_lt hL (by decide) i
    have hd : L.drop i = L.getD i 0 :: L.drop (i + 1) := by
      rw [List.drop_eq_getElem_cons hlt, List.getD_eq_getElem?_getD, List.getElem?_eq_getElem hlt]; rfl
    have hx : r ^^^ L.getD i 0 < 4294967296 := Nat.xor_lt_two_pow (n := 32) hr (by omega)
    rw [hd, crc_cons] at h
    have h1 := ih (i + 1) (sn 8 (r ^^^ L.getD i 0)) (sn_lt hx) (by omega) h
    have h2 : Ev (fun k => wire_Sum.l1 k ((sn 8 (r ^^^ L.getD i 0) : Nat) : Int) x9 x10 x11 (ints L) (L.length : Int) (wrap64 ((i : Int) + 1))) R := by
      rw [w64 ((i : Int) + 1) (by omega) (by omega)]
      exact h1
    refine Ev.step (fun k => ?_) (sum_l2 x9 x10 x11 (ints L) (L.length : Int) (i : Int) 8 0 (r ^^^ L.getD i 0) hx (by omega) (by omega) h2)
    simp only [wire_Sum.l1]
    rw [if_pos (by omega), if_pos (by omega), if_pos (by rw [ints_length]; omega), rd_ints]
    have e1 : ((L.getD i 0 : Nat) : Int) % 4294967296 = ((L.getD i 0 : Nat) : Int) := by omega
    rw [e1, u32_xor_nat r (L.getD i 0) hr (by omega)]
theorem rd_parts (parts : List (List Nat)) (i : Nat) : rd_L1 (parts.map ints) (i : Int) = ints (parts.getD i []) := by
  simp only [rd_L1, Int.toNat_natCast, List.getD_eq_getElem?_getD, List.getElem?_map]
  cases parts[i]? <;> rfl
theorem crc_append (a b : List Nat) (r : Nat) : crc r (a ++ b) = crc (crc r a) b := by
  induction a generalizing r with
  | nil => rfl
  | cons c l ih => rw [List.cons_append, crc_cons, crc_cons, ih]
theorem sum_l0 (parts : List (List Nat)) (hp : ∀ L ∈ parts, (∀ c ∈ L, c < 256) ∧ L.length ≤ 9223372036854775806) (hn : parts.length ≤ 9223372036854775806) : ∀ (d i r : Nat), r < 4294967296 → i + d = parts.length →
    Ev (fun k => wire_Sum.l0 k (r : Int) (parts.map ints) (parts.length : Int) (i : Int)) ((crc r (parts.drop i).flatten ^^^ 4294967295 : Nat) : Int) := by
  intro d
  induction d with
  | zero =>
    intro i r hr hi
    refine Ev.step (fun k => ?_) (Ev.now _)
    simp only [wire_Sum.l0]
    rw [if_neg (by omega), List.drop_of_length_le (by omega)]
    have := u32_xor_nat 4294967295 r (by decide) hr
    rw [Nat.xor_comm] at this
    exact congrArg some this
  | succ d ih =>
    intro i r hr hi
    have hlt : i < parts.length := by omega
    have hg : parts.getD i [] = parts[i] := by rw [List.getD_eq_getElem?_getD, List.getElem?_eq_getElem hlt]; rfl
    obtain ⟨hc, hl⟩ := hp _ (List.getElem_mem hlt)
    have hd : parts.drop i = parts[i] :: parts.drop (i + 1) := List.drop_eq_getElem_cons hlt
    have h1 := ih (i + 1) (crc r parts[i]) (crc_lt hr hc) (by omega)
    rw [hd, List.flatten_cons, crc_append]
    have h2 : Ev (fun k => wire_Sum.l0 k ((crc r (parts[i].drop 0) : Nat) : Int) (parts.map ints) (parts.length : Int) (wrap64 ((i : Int) + 1))) ((crc (crc r parts[i]) (parts.drop (i + 1)).flatten ^^^ 4294967295 : Nat) : Int) := by
      rw [w64 ((i : Int) + 1) (by omega) (by omega)]
      exact h1
    refine Ev.step (fun k => ?_) (sum_l1 (parts.map ints) (parts.length : Int) (i : Int) parts[i] hc hl parts[i].length 0 r hr (by omega) h2)
    simp only [wire_Sum.l0]
    rw [if_pos (by omega), if_pos (by omega), if_pos (by rw [List.length_map]; omega), rd_parts, hg, ints_length]
    rfl
/-- The check sum of parts. -/
def total (l : List Nat) : Nat := crc 4294967295 l ^^^ 4294967295
theorem sum_parts (parts : List (List Nat)) (hp : ∀ L ∈ parts, (∀ c ∈ L, c < 256) ∧ L.length ≤ 9223372036854775806) (hn : parts.length ≤ 9223372036854775806) : Ev (fun k => wire_Sum.f k (parts.map ints)) (total parts.flatten : Int) := by
  have := sum_l0 parts hp hn parts.length 0 4294967295 (by decide) (by omega)
  simpa [wire_Sum.f, total] using this
theorem sum_one (L : List Nat) (hL : ∀ c ∈ L, c < 256) (hn : L.length ≤ 9223372036854775806) : Ev (fun k => wire_Sum.f k [ints L]) (total L : Int) := by
  have := sum_parts [L] (by simpa using ⟨hL, hn⟩) (by simp)
  simpa using this
theorem total_lt {L : List Nat} (hL : ∀ c ∈ L, c < 256) : total L < 4294967296 := Nat.xor_lt_two_pow (n := 32) (crc_lt (by decide) hL) (by decide)
theorem total_inj {a b : List Nat} (h : total a = total b) : crc 4294967295 a = crc 4294967295 b := by
  have := congrArg (· ^^^ 4294967295) h
  simpa [total, Nat.xor_assoc] using this
/-- A bit turned over. -/
theorem flip_is (L : List Nat) (hL : ∀ c ∈ L, c < 256) (hn : L.length ≤ 1152921504606846975) (q : Nat) (hq : q < 8 * L.length) : endonymlaw1_flip.f (ints L) (q : Int) = some (ints (flip L q)) := by
  have e1 : Int.tdiv (q : Int) 8 = ((q / 8 : Nat) : Int) := rfl
  have e2 : Int.tmod (q : Int) 8 = ((q % 8 : Nat) : Int) := rfl
  have hb : L.getD (q / 8) 0 < 256 := getD_lt hL (by decide) _
  have hs : shl .u8 1 ((q % 8 : Nat) : Int) = ((2 ^ (q % 8) : Nat) : Int) := by
    have h8 : q % 8 < 8 := Nat.mod_lt _ (by decide)
    generalize q % 8 = m at h8
    have : ∀ m : Fin 8, shl .u8 1 ((m.1 : Nat) : Int) = ((2 ^ m.1 : Nat) : Int) := by decide
    exact this ⟨m, h8⟩
  have hp : 2 ^ (q % 8) < 256 := Nat.lt_of_lt_of_le (Nat.pow_lt_pow_right (by decide) (Nat.mod_lt q (by decide))) (by decide)
  unfold endonymlaw1_flip.f
  rw [e1, e2, w64 _ (by omega) (by omega), u64w _ (by omega) (by omega), if_pos (by omega), if_pos (by rw [ints_length]; omega), if_pos (by omega), Int.toNat_natCast, rd_ints, hs, u8_xor_nat _ _ hb hp, set_ints]
  rfl
end Go.Proofs.Ytgjmollnjlkjhaa.SumLaw
