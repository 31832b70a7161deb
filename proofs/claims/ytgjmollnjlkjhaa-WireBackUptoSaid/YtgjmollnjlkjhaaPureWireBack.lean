/- What Uint (of a number from 0 on), Text and Float write, their Reads read, wherever it stands and whatever stands behind: for every number, text, float and every bytes ahead and behind that together are of at most 1,048,576 values and letters, as Go's law asks it (WireBack). -/
import Derived.Test.YtgjmollnjlkjhaaQx11
import Derived.Test.YtgjmollnjlkjhaaTextLaw
import Derived.Test.YtgjmollnjlkjhaaFloatLaw
import Derived.Test.YtgjmollnjlkjhaaJoinLaw
namespace Go.Proofs.Ytgjmollnjlkjhaa.Pure
open Go Go.RowKit Go.Proofs.Ytgjmollnjlkjhaa.Q Go.Proofs.YtgjmollnjlkjhaaW.PrintWords Go.Proofs.YtgjmollnjlkjhaaW.PrintLast Go.Proofs.YtgjmollnjlkjhaaW.PrintMore Go.Proofs.Ytgjmollnjlkjhaa.Base Go.Proofs.Ytgjmollnjlkjhaa.WireLaw Go.Proofs.Ytgjmollnjlkjhaa.TextLaw Go.Proofs.Ytgjmollnjlkjhaa.FloatLaw Go.Proofs.Ytgjmollnjlkjhaa.JoinLaw
set_option linter.unusedVariables false

theorem wsum (a b : Nat) (h : a + b ≤ 4000000) : wrap64 ((a : Int) + (b : Int)) = ((a + b : Nat) : Int) := by
  rw [w64 _ (by omega) (by omega)]
  omega
theorem wsum8 (a : Nat) (h : a ≤ 4000000) : wrap64 ((a : Int) + 8) = (a : Int) + 8 := by
  rw [w64 _ (by omega) (by omega)]
theorem WireBack : endonymlaw1_WireBack.Pure := by
  intro a0 s a2 l3 l4 h0 hs h2 _ _ hl3 _ _ hl4 hu
  obtain ⟨A, rfl, hA⟩ := nats_of_wf hl3
  obtain ⟨R, rfl, hR⟩ := nats_of_wf hl4
  rw [ints_length, ints_length] at hu
  obtain ⟨b0, b1⟩ := bounds_u64 h2
  obtain ⟨u, rfl⟩ := Int.eq_ofNat_of_zero_le b0
  obtain ⟨n, hn⟩ := Int.eq_ofNat_of_zero_le (show 0 ≤ a0 % 9223372036854775808 by omega)
  have hn2 : n < 9223372036854775808 := by omega
  have hen := enc_len n
  have hes := enc_len s.size
  have htx : (text s).length = (enc s.size).length + s.size := by rw [text, List.length_append, nb_length]
  have hf := f8_length u
  have hall : [A, enc n, text s, f8 u, R].flatten = A ++ enc n ++ (text s ++ f8 u ++ R) := by simp [List.append_assoc]
  have hall2 : A ++ enc n ++ (text s ++ f8 u ++ R) = (A ++ enc n) ++ text s ++ (f8 u ++ R) := by simp [List.append_assoc]
  have hall3 : A ++ enc n ++ (text s ++ f8 u ++ R) = (A ++ enc n ++ text s) ++ f8 u ++ R := by simp [List.append_assoc]
  have hlen : (A ++ enc n ++ (text s ++ f8 u ++ R)).length = A.length + (enc n).length + ((text s).length + 8 + R.length) := by simp [hf]; omega
  have hB : ∀ c ∈ A ++ enc n ++ (text s ++ f8 u ++ R), c < 256 := by
    intro c hc
    simp only [List.mem_append] at hc
    rcases hc with (h | h) | ((h | h) | h)
    · exact hA c h
    · exact enc_lt hn2 c h
    · exact text_lt (by omega) c h
    · exact f8_lt u c h
    · exact hR c h
  obtain ⟨k1, g1⟩ := uint_is n hn2
  obtain ⟨k2, g2⟩ := text_is s hs
  obtain ⟨k3, g3⟩ := float_is u
  obtain ⟨k4, g4⟩ := joined_is [A, enc n, text s, f8 u, R] (by simp) (by rw [hall, hlen]; omega)
  obtain ⟨k5, g5⟩ := read_is _ hB (by rw [hlen]; omega) (A.length : Int)
  obtain ⟨k6, g6⟩ := rt_is _ hB (by rw [hlen]; omega) ((A.length + (enc n).length : Nat) : Int) (s.size : Int)
  have e1 : wire_Uint.f (k1 + k2 + k3 + k4 + k5 + k6) (n : Int) = _ := g1 _ (by omega)
  have e2 : wire_Text.f (k1 + k2 + k3 + k4 + k5 + k6) s = _ := g2 _ (by omega)
  have e3 : wire_Float.f (k1 + k2 + k3 + k4 + k5 + k6) u = _ := g3 _ (by omega)
  have e4 : wire_Joined.f (k1 + k2 + k3 + k4 + k5 + k6) [ints A, ints (enc n), ints (text s), ints (f8 u), ints R] = _ := g4 _ (by omega)
  have e5 : wire_ReadUint.f (k1 + k2 + k3 + k4 + k5 + k6) _ (A.length : Int) = _ := g5 _ (by omega)
  have e6 : wire_ReadText.f (k1 + k2 + k3 + k4 + k5 + k6) _ ((A.length + (enc n).length : Nat) : Int) (s.size : Int) = _ := g6 _ (by omega)
  have e7 := rf_is _ hB ((A.length + (enc n).length + (text s).length : Nat) : Int)
  rw [hall] at e4
  have r5 := readu_enc A (text s ++ f8 u ++ R) n hn2
  have r6 := readt_text (A ++ enc n) (f8 u ++ R) s (by omega) (s.size : Int) (Int.le_refl _)
  rw [← hall2, List.length_append] at r6
  have r7 := readf_f8 (A ++ enc n ++ text s) R u (by omega)
  rw [← hall3, List.length_append, List.length_append] at r7
  rw [r5] at e5
  rw [r6] at e6
  rw [r7] at e7
  have tA : A.length ≤ 1048576 := by clear e1 e2 e3 e4 e5 e6 e7 r5 r6 r7 hlen; omega
  have tS : s.size ≤ 1048576 := by clear e1 e2 e3 e4 e5 e6 e7 r5 r6 r7 hlen; omega
  have tT : (text s).length ≤ 1048585 := by clear e1 e2 e3 e4 e5 e6 e7 r5 r6 r7 hlen hu; omega
  have w1 : wrap64 (((ints A).length : Int) + ((ints (enc n)).length : Int)) = ((A.length + (enc n).length : Nat) : Int) := by rw [ints_length, ints_length]; exact wsum _ _ (Nat.le_trans (Nat.add_le_add tA hen.2) (by decide))
  have w2 : wrap64 (((A.length + (enc n).length : Nat) : Int) + ((ints (text s)).length : Int)) = ((A.length + (enc n).length + (text s).length : Nat) : Int) := by rw [ints_length]; exact wsum _ _ (Nat.le_trans (Nat.add_le_add (Nat.add_le_add tA hen.2) tT) (by decide))
  have w3 : wrap64 (((A.length + (enc n).length + (text s).length : Nat) : Int) + 8) = ((A.length + (enc n).length + (text s).length : Nat) : Int) + 8 := wsum8 _ (Nat.le_trans (Nat.add_le_add (Nat.add_le_add tA hen.2) tT) (by decide))
  have f1 : api_Float.f (u : Int) = some u := by unfold api_Float.f; rw [Int.toNat_natCast]
  have f2 : endonymlaw1_told.f = some true := rfl
  have f3 : api_Bits.f u = some (u : Int) := rfl
  refine ⟨k1 + k2 + k3 + k4 + k5 + k6, ?_⟩
  unfold endonymlaw1_WireBack.f
  rw [i64_and63bits, hn, e1, Option.bind_some, e2, Option.bind_some, f1, Option.bind_some, e3, Option.bind_some, e4, Option.bind_some, ints_length A, e5, Option.bind_some]
  rw [ints_length A] at w1
  rw [w1, e6, Option.bind_some, w2, e7, Option.bind_some, f2, Option.bind_some, if_pos rfl, if_pos rfl, if_pos rfl, if_pos rfl, if_pos rfl, if_pos rfl, f3, Option.bind_some, Option.bind_some, f3, Option.bind_some, if_pos rfl, if_pos rfl, if_pos rfl]
  refine congrArg some ?_
  dsimp only
  try simp only [ints_length]
  rw [beq_iff_eq]
  first | rw [w3] | exact w3.symm | exact w3 | trace_state
end Go.Proofs.Ytgjmollnjlkjhaa.Pure
