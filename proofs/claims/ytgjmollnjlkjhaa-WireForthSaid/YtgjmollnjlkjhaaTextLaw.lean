/- What the printed texts' readers and writers come to, the program's and the document's alike. -/
import Derived.Test.YtgjmollnjlkjhaaQx2
import Derived.Test.YtgjmollnjlkjhaaQx5
import Derived.Test.YtgjmollnjlkjhaaWireLaw
namespace Go.Proofs.Ytgjmollnjlkjhaa.TextLaw
open Go Go.RowKit Go.Proofs.Ytgjmollnjlkjhaa.Q Go.Proofs.YtgjmollnjlkjhaaW.PrintWords Go.Proofs.YtgjmollnjlkjhaaW.PrintLast Go.Proofs.YtgjmollnjlkjhaaW.PrintMore Go.Proofs.Ytgjmollnjlkjhaa.Base Go.Proofs.Ytgjmollnjlkjhaa.WireLaw
set_option linter.unusedVariables false

/-- A text's bytes. -/
def nb (s : ByteArray) : List Nat := s.data.toList.map UInt8.toNat
theorem nb_ints (s : ByteArray) : bytesOf s = ints (nb s) := by
  simp only [bytesOf, ints, nb, List.map_map]
  rfl
theorem nb_length (s : ByteArray) : (nb s).length = s.size := by
  rw [nb, List.length_map, data_length]
theorem nb_lt (s : ByteArray) : ∀ c ∈ nb s, c < 256 := by
  intro c hc
  obtain ⟨b, _, rfl⟩ := List.mem_map.1 hc
  exact b.toNat_lt
theorem str_nb (s : ByteArray) : strOfNums (ints (nb s)) = s := by
  have h : (strOfNums (ints (nb s))).data.toList = s.data.toList := by
    rw [strOfNums_data]
    simp only [ints, nb, List.map_map]
    refine (List.map_congr_left fun b _ => ?_).trans (List.map_id _)
    simp [Function.comp]
  cases s with
  | mk d => 
    simp only [strOfNums] at h ⊢
    congr 1
    exact Array.toList_inj.1 h
/-- A text's bytes, how many ahead. -/
def text (s : ByteArray) : List Nat := enc s.size ++ nb s
theorem enc_len (n : Nat) : 0 < (enc n).length ∧ (enc n).length ≤ 9 := encF_len 8 n
theorem enc_lt {n : Nat} (hn : n < 9223372036854775808) : ∀ c ∈ enc n, c < 256 := encF_lt 8 n (by omega)
theorem text_lt {s : ByteArray} (hs : s.size < 9223372036854775808) : ∀ c ∈ text s, c < 256 := by
  intro c hc
  rcases List.mem_append.1 hc with h | h
  · exact enc_lt hs c h
  · exact nb_lt s c h
theorem text_is (s : ByteArray) (hs : s.size ≤ 140737488351232) : Ev (fun k => wire_Text.f k s) (ints (text s)) := by
  have hl := enc_len s.size
  refine Ev.congr (f := fun k => (wire_Uint.f k (s.size : Int)).bind fun t => if t.length + s.size < 140737488355328 then some (t ++ bytesOf s) else none) (fun k => rfl) ?_
  refine Ev.bind (uint_is s.size (by omega)) ?_
  refine Ev.congr (fun k => ?_) (Ev.now _)
  rw [if_pos (by rw [ints_length]; omega), nb_ints, text, ints_append]
theorem rtext_is (s : ByteArray) (hs : s.size ≤ 140737488351232) : Ev (fun k => endonymref1_Text.f k s) (ints (text s)) := by
  have hl := enc_len s.size
  refine Ev.congr (f := fun k => (endonymref1_Uint.f k (s.size : Int)).bind fun t => if t.length + s.size < 140737488355328 then some (t ++ bytesOf s) else none) (fun k => rfl) ?_
  refine Ev.bind (ruint_is s.size (by omega)) ?_
  refine Ev.congr (fun k => ?_) (Ev.now _)
  rw [if_pos (by rw [ints_length]; omega), nb_ints, text, ints_append]
/-- Reading a text. -/
def readt (B : List Nat) (at_ most : Int) : ByteArray × Int × Int :=
  if at_ < 0 ∨ at_ > (B.length : Int) ∨ most < 0 then (⟨#[]⟩, 0, 1) else
  if (readu B at_).2.2 ≠ 0 then (⟨#[]⟩, 0, (readu B at_).2.2) else
  if (readu B at_).1 > most then (⟨#[]⟩, 0, 3) else
  if (readu B at_).2.1 + (readu B at_).1 ≤ (B.length : Int) then (strOfNums (ints ((B.drop (readu B at_).2.1.toNat).take (readu B at_).1.toNat)), (readu B at_).2.1 + (readu B at_).1, 0) else (⟨#[]⟩, 0, 10)
/-- What is known of a number that was read. -/
theorem readu_ok {B : List Nat} (hB : ∀ c ∈ B, c < 256) {at_ : Int} (h : (readu B at_).2.2 = 0) : ∃ a n j : Nat, at_ = a ∧ a + (j + 1) ≤ B.length ∧ n < 128 ^ (j + 1) ∧ j < 9 ∧ readu B at_ = ((n : Int), ((a + (j + 1) : Nat) : Int), 0) ∧ (B.drop a).take (j + 1) = encF j n ∧ (encF j n).length = j + 1 := by
  unfold readu at h ⊢
  by_cases h1 : at_ < 0 ∨ at_ > (B.length : Int)
  · rw [if_pos h1] at h; simp at h
  · rw [if_neg h1] at h ⊢
    obtain ⟨a, rfl⟩ := Int.eq_ofNat_of_zero_le (show 0 ≤ at_ by omega)
    rw [Int.toNat_natCast] at h ⊢
    obtain ⟨n, u, e, hr⟩ : ∃ n u e, rdu 9 (B.drop a) 0 0 = (n, u, e) := ⟨_, _, _, rfl⟩
    rw [hr] at h ⊢
    have he : e = 0 := by simp only [told_] at h; omega
    subst he
    obtain ⟨m, j, e1, e2, e3, e4, e5, e6, e7, e8⟩ := rdu_back 9 _ 0 0 n u (fun c hc => hB c (List.mem_of_mem_drop hc)) hr
    rw [Nat.pow_zero, Nat.mul_one, Nat.zero_add] at e1
    subst e1
    rw [List.length_drop] at e7
    refine ⟨a, n, j, rfl, by omega, e3, e2, ?_, e6, e5⟩
    simp only [told_, if_true]
    rw [e4, e5, Nat.zero_add]
    rfl
theorem readu_ok2 {B : List Nat} (hB : ∀ c ∈ B, c < 256) {at_ : Int} (h : (readu B at_).2.2 = 0) : 0 ≤ (readu B at_).1 ∧ (readu B at_).1 ≤ 9223372036854775807 ∧ 0 ≤ (readu B at_).2.1 ∧ (readu B at_).2.1 ≤ (B.length : Int) := by
  obtain ⟨a, n, j, h1, h2, h3, h4, h5, _⟩ := readu_ok hB h
  rw [h5]
  have h6 : 128 ^ (j + 1) ≤ 128 ^ 9 := Nat.pow_le_pow_right (by decide) (by omega)
  have h7 : (128 : Nat) ^ 9 = 9223372036854775808 := by decide
  simp only
  omega
theorem rt_is (B : List Nat) (hB : ∀ c ∈ B, c < 256) (hl : B.length ≤ 4611686018427387904) (at_ most : Int) : Ev (fun k => wire_ReadText.f k (ints B) at_ most) (readt B at_ most) := by
  unfold readt
  by_cases h1 : at_ < 0
  · rw [if_pos (.inl h1)]
    refine Ev.congr (fun k => ?_) (Ev.now _)
    unfold wire_ReadText.f
    rw [if_pos h1]
  by_cases h2 : at_ > (B.length : Int)
  · rw [if_pos (.inr (.inl h2))]
    refine Ev.congr (fun k => ?_) (Ev.now _)
    unfold wire_ReadText.f
    rw [ints_length, if_neg h1, if_pos h2]
  by_cases h3 : most < 0
  · rw [if_pos (.inr (.inr h3))]
    refine Ev.congr (fun k => ?_) (Ev.now _)
    unfold wire_ReadText.f
    rw [ints_length, if_neg h1, if_neg h2, if_pos h3]
  rw [if_neg (by omega)]
  refine Ev.congr (f := fun k => (wire_ReadUint.f k (ints B) at_).bind fun b =>
    if b.2.2 = 0 then
      (if b.1 > most then some (⟨#[]⟩, 0, 3)
      else if 0 ≤ b.1 ∧ b.1 ≤ 9223372036854775807 ∧ 0 ≤ b.2.1 ∧ b.2.1 ≤ (B.length : Int) then
        (if b.2.1 + b.1 ≤ (B.length : Int) then some (strOfNums (((ints B).drop b.2.1.toNat).take b.1.toNat), b.2.1 + b.1, 0) else some (⟨#[]⟩, 0, 10))
      else none)
    else some (⟨#[]⟩, 0, b.2.2)) (fun k => ?_) ?_
  · unfold wire_ReadText.f
    rw [ints_length, if_neg h1, if_neg h2, if_neg h3]
  refine Ev.bind (read_is B hB hl at_) ?_
  refine Ev.congr (fun k => ?_) (Ev.now _)
  by_cases h4 : (readu B at_).2.2 = 0
  · have h5 := readu_ok2 hB h4
    rw [if_pos h4, if_neg (show ¬ ((readu B at_).2.2 ≠ 0) from fun h => h h4)]
    by_cases h6 : (readu B at_).1 > most
    · rw [if_pos h6, if_pos h6]
    · rw [if_neg h6, if_neg h6, if_pos h5]
      by_cases h7 : (readu B at_).2.1 + (readu B at_).1 ≤ (B.length : Int)
      · rw [if_pos h7, if_pos h7]
        simp [ints, List.map_take, List.map_drop]
      · rw [if_neg h7, if_neg h7]
  · rw [if_neg h4, if_pos h4]
theorem rrt_is (B : List Nat) (hB : ∀ c ∈ B, c < 256) (hl : B.length ≤ 4611686018427387904) (at_ most : Int) : Ev (fun k => endonymref1_ReadText.f k (ints B) at_ most) (readt B at_ most) := by
  unfold readt
  have hbad : Ev (fun k => endonymref1_ReadText.j0 k (ints B) at_ most true) ((⟨#[]⟩ : ByteArray), 0, 1) := by
    refine Ev.step (fun k => ?_) (Ev.now _)
    simp only [endonymref1_ReadText.j0]
    rw [if_pos trivial]
  by_cases h1 : at_ < 0
  · rw [if_pos (.inl h1)]
    refine Ev.congr (fun k => ?_) hbad
    unfold endonymref1_ReadText.f
    rw [if_pos h1]
  by_cases h2 : at_ > (B.length : Int)
  · rw [if_pos (.inr (.inl h2))]
    refine Ev.congr (fun k => ?_) hbad
    unfold endonymref1_ReadText.f
    rw [ints_length, if_neg h1, if_pos h2]
  by_cases h3 : most < 0
  · rw [if_pos (.inr (.inr h3))]
    refine Ev.congr (fun k => ?_) hbad
    unfold endonymref1_ReadText.f
    rw [ints_length, if_neg h1, if_neg h2, decide_eq_true h3]
  rw [if_neg (by omega)]
  refine Ev.congr (f := fun k => endonymref1_ReadText.j0 k (ints B) at_ most false) (fun k => ?_) ?_
  · unfold endonymref1_ReadText.f
    rw [ints_length, if_neg h1, if_neg h2, decide_eq_false h3]
  refine Ev.step (f := fun k => (endonymref1_ReadUint.f k (ints B) at_).bind fun bt160 => (if bt160.2.2 = 0 then (if bt160.1 > most then (some ((⟨#[]⟩ : ByteArray), 0, 3)) else (if bt160.1 > (wrap64 ((B.length : Int) - bt160.2.1)) then (some ((⟨#[]⟩ : ByteArray), 0, 10)) else (if 0 ≤ bt160.2.1 then (if bt160.2.1 ≤ (wrap64 (bt160.2.1 + bt160.1)) then (if (wrap64 (bt160.2.1 + bt160.1)) ≤ (B.length : Int) then (some (strOfNums (((ints B).take ((wrap64 (bt160.2.1 + bt160.1)) : Int).toNat).drop (bt160.2.1 : Int).toNat), wrap64 (bt160.2.1 + bt160.1), 0)) else (none)) else (none)) else (none)))) else (some ((⟨#[]⟩ : ByteArray), 0, bt160.2.2)))) (fun k => ?_) ?_
  · simp only [endonymref1_ReadText.j0]
    rw [if_neg (by decide), ints_length]
  refine Ev.bind (rread_is B hB hl at_) ?_
  refine Ev.congr (fun k => ?_) (Ev.now _)
  by_cases h4 : (readu B at_).2.2 = 0
  · obtain ⟨g1, g2, g3, g4⟩ := readu_ok2 hB h4
    rw [if_pos h4, if_neg (show ¬ ((readu B at_).2.2 ≠ 0) from fun h => h h4)]
    by_cases h6 : (readu B at_).1 > most
    · rw [if_pos h6, if_pos h6]
    · rw [if_neg h6, if_neg h6, w64 ((B.length : Int) - _) (by omega) (by omega)]
      by_cases h7 : (readu B at_).2.1 + (readu B at_).1 ≤ (B.length : Int)
      · rw [if_neg (by omega), if_pos h7, w64 _ (by omega) (by omega), if_pos g3, if_pos (by omega), if_pos h7, List.drop_take]
        have e1 : ((readu B at_).2.1 + (readu B at_).1).toNat - (readu B at_).2.1.toNat = (readu B at_).1.toNat := by omega
        rw [e1]
        simp [ints, List.map_take, List.map_drop]
      · rw [if_pos (by omega), if_neg h7]
  · rw [if_neg h4, if_pos h4]
/-- A text that was written is read, whatever stands behind. -/
theorem readu_enc (A R : List Nat) (n : Nat) (hn : n < 9223372036854775808) : readu (A ++ enc n ++ R) (A.length : Int) = ((n : Int), ((A.length + (enc n).length : Nat) : Int), 0) := by
  unfold readu
  rw [if_neg (by simp; omega), Int.toNat_natCast, List.append_assoc, List.drop_left, enc, rdu_enc 8 n 9 0 0 R (by omega) (by decide) (.inr rfl)]
  simp only [told_, if_true]
  congr 1
  · omega
  · congr 1
    omega
theorem readt_text (A R : List Nat) (s : ByteArray) (hs : s.size < 9223372036854775808) (most : Int) (hm : (s.size : Int) ≤ most) : readt (A ++ text s ++ R) (A.length : Int) most = (s, ((A.length + (text s).length : Nat) : Int), 0) := by
  have h := readu_enc A (nb s ++ R) s.size hs
  have e : A ++ text s ++ R = A ++ enc s.size ++ (nb s ++ R) := by simp [text, List.append_assoc]
  unfold readt
  rw [e, if_neg (by simp; omega), h, if_neg (by simp), if_neg (by simp only; omega), if_pos (by simp [nb_length]; omega)]
  simp only [Int.toNat_natCast]
  have e2 : (A ++ enc s.size ++ (nb s ++ R)).drop (A.length + (enc s.size).length) = nb s ++ R := by
    rw [← List.length_append, List.drop_left]
  rw [e2, List.take_append_of_le_length (by rw [nb_length]; omega), List.take_of_length_le (by rw [nb_length]; omega), str_nb]
  congr 2
  simp [text, nb_length]
  omega
end Go.Proofs.Ytgjmollnjlkjhaa.TextLaw
