/- Every beginning of a written number or text that is shorter than the whole is ErrShort, and of two unlike numbers neither's bytes begin the other's: for every two numbers, every text and every cut, as Go's law asks it (WireShort). -/
import Derived.Test.YtgjmollnjlkjhaaQx6
import Derived.Test.YtgjmollnjlkjhaaTextLaw
namespace Go.Proofs.Ytgjmollnjlkjhaa.Pure
open Go Go.RowKit Go.Proofs.Ytgjmollnjlkjhaa.Q Go.Proofs.YtgjmollnjlkjhaaW.PrintWords Go.Proofs.YtgjmollnjlkjhaaW.PrintLast Go.Proofs.YtgjmollnjlkjhaaW.PrintMore Go.Proofs.Ytgjmollnjlkjhaa.Base Go.Proofs.Ytgjmollnjlkjhaa.WireLaw Go.Proofs.Ytgjmollnjlkjhaa.TextLaw
set_option linter.unusedVariables false

theorem ints_take (l : List Nat) (k : Nat) : (ints l).take k = ints (l.take k) := by simp [ints, List.map_take]
theorem readu_short (n m : Nat) (hn : n < 9223372036854775808) (hm : m < (enc n).length) : (readu ((enc n).take m) 0).2.2 = 10 := by
  unfold readu
  rw [if_neg (by simp)]
  have := rdu_short 8 n 9 0 0 m (by decide) hm
  rw [Int.toNat_zero, List.drop_zero, enc, this]
  rfl
theorem readt_short (s : ByteArray) (hs : s.size < 9223372036854775808) (m : Nat) (hm : m < (text s).length) : (readt ((text s).take m) 0 (s.size : Int)).2.2 = 10 := by
  unfold readt
  rw [if_neg (by simp)]
  by_cases h : m < (enc s.size).length
  · have e : (text s).take m = (enc s.size).take m := by rw [text, List.take_append_of_le_length (by omega)]
    have h10 := readu_short s.size m hs h
    rw [e, if_pos (by rw [h10]; decide)]
    exact h10
  · have e : (text s).take m = [] ++ enc s.size ++ (nb s).take (m - (enc s.size).length) := by
      rw [text, List.take_append, List.take_of_length_le (by omega), List.nil_append]
    have hr := readu_enc [] ((nb s).take (m - (enc s.size).length)) s.size hs
    rw [List.length_nil] at hr
    have hl : (text s).length = (enc s.size).length + s.size := by rw [text, List.length_append, nb_length]
    rw [e, show ((0 : Int)) = ((0 : Nat) : Int) from rfl, hr, if_neg (by simp), if_neg (by simp), if_neg (by simp [nb_length]; omega)]
theorem enc_prefix {n m : Nat} (hn : n < 9223372036854775808) (hm : m < 9223372036854775808) (h : (enc m).take (enc n).length = enc n) : n = m := by
  have e : enc m = enc n ++ (enc m).drop (enc n).length := by
    conv => lhs; rw [← List.take_append_drop (enc n).length (enc m), h]
  have h1 := rdu_enc 8 m 9 0 0 [] (by omega) (by decide) (.inr rfl)
  have h2 := rdu_enc 8 n 9 0 0 ((enc m).drop (enc n).length) (by omega) (by decide) (.inr rfl)
  rw [List.append_nil] at h1
  have h3 : encF 8 m = encF 8 n ++ (enc m).drop (enc n).length := e
  rw [h3, h2] at h1
  have := congrArg Prod.fst h1
  simpa using this
theorem tmod_pos (x : Int) (n : Nat) (hx : 0 ≤ x) (hn : 0 < n) : 0 ≤ Int.tmod x (n : Int) ∧ Int.tmod x (n : Int) < (n : Int) := by
  rw [Int.tmod_eq_emod_of_nonneg hx]
  exact ⟨Int.emod_nonneg _ (by omega), Int.emod_lt_of_pos _ (by omega)⟩
theorem short_j0 (n m : Nat) (hn : n < 9223372036854775808) (hm : m < 9223372036854775808) (s : ByteArray) (hs : s.size ≤ 140737488351232) (x3 : Int) :
    Ev (fun k => endonymlaw1_WireShort.j0 k (n : Int) (m : Int) s x3 (ints (enc n)) (ints (enc m)) (ints (text s)) false) true := by
  have hl := enc_len n
  have hlm := enc_len m
  have hls := enc_len s.size
  have hlt : (text s).length = (enc s.size).length + s.size := by rw [text, List.length_append, nb_length]
  obtain ⟨p0, p1⟩ := tmod_pos (x3 % 8) (enc n).length (by omega) hl.1
  obtain ⟨q0, q1⟩ := tmod_pos (x3 / 8 % 1099511627776) (text s).length (by omega) (by omega)
  obtain ⟨p, hp⟩ := Int.eq_ofNat_of_zero_le p0
  obtain ⟨q, hq⟩ := Int.eq_ofNat_of_zero_le q0
  rw [hp] at p1
  rw [hq] at q1
  refine Ev.step (f := fun k => (wire_ReadUint.f k (ints ((enc n).take p)) 0).bind fun b => (wire_ReadText.f k (ints ((text s).take q)) 0 (s.size : Int)).bind fun c =>
      (if b.2.2 = 10 then (if c.2.2 = 10 then (if (n : Int) = (m : Int) then (some true) else (if ((enc n).length : Int) > ((enc m).length : Int) then (some true) else (if 0 ≤ ((enc n).length : Int) then (if ((enc n).length : Int) ≤ ((enc m).length : Int) then (some ((strOfNums ((ints (enc m)).take (((enc n).length : Int) : Int).toNat)).toList != (strOfNums (ints (enc n))).toList)) else (none)) else (none)))) else (some false)) else (some false))) (fun k => ?_) ?_
  · simp only [endonymlaw1_WireShort.j0]
    rw [if_neg (by decide), ints_length, ints_length, ints_length, if_neg (by omega), i64_and7, hp, if_pos (by omega), if_pos (by omega), Int.toNat_natCast, ints_take]
    congr 1
    funext b
    rw [if_neg (by omega), i64_and40, hq, if_pos (by omega), if_pos (by omega), Int.toNat_natCast, ints_take]
  refine Ev.bind (read_is _ (fun c hc => enc_lt hn c (List.mem_of_mem_take hc)) (by rw [List.length_take]; omega) 0) ?_
  refine Ev.bind (rt_is _ (fun c hc => text_lt (by omega) c (List.mem_of_mem_take hc)) (by rw [List.length_take]; omega) 0 (s.size : Int)) ?_
  refine Ev.congr (fun k => ?_) (Ev.now _)
  rw [readu_short n p hn (by omega), readt_short s (by omega) q (by omega), if_pos rfl, if_pos rfl]
  by_cases hnm : n = m
  · rw [if_pos (by omega)]
  · rw [if_neg (by omega)]
    by_cases hlong : (enc m).length < (enc n).length
    · rw [if_pos (by omega)]
    · rw [if_neg (by omega), if_pos (by omega), if_pos (by omega), Int.toNat_natCast, ints_take]
      congr 1
      rw [bne_iff_ne]
      intro h
      exact hnm (enc_prefix hn hm (str_ints (fun c hc => enc_lt hm c (List.mem_of_mem_take hc)) (enc_lt hn) h))
theorem WireShort : endonymlaw1_WireShort.Pure := by
  intro a0 a1 s a3 h0 h1 hs h3
  obtain ⟨n, hn⟩ := Int.eq_ofNat_of_zero_le (show 0 ≤ a0 % 9223372036854775808 by omega)
  obtain ⟨m, hm⟩ := Int.eq_ofNat_of_zero_le (show 0 ≤ a1 % 9223372036854775808 by omega)
  have hn2 : n < 9223372036854775808 := by omega
  have hm2 : m < 9223372036854775808 := by omega
  have hl := enc_len n
  have hlm := enc_len m
  have hls := enc_len s.size
  have hlt : (text s).length = (enc s.size).length + s.size := by rw [text, List.length_append, nb_length]
  refine Ev.rounds (g := fun k => endonymlaw1_WireShort.f k a0 a1 s a3) ?_
  refine Ev.congr (f := fun k => (wire_Uint.f k (n : Int)).bind fun t1 => (wire_Uint.f k (m : Int)).bind fun t2 => (wire_Text.f k s).bind fun t3 =>
    (if (t1.length : Int) = 0 then endonymlaw1_WireShort.j0 k (n : Int) (m : Int) s a3 t1 t2 t3 true else (if (t2.length : Int) = 0 then endonymlaw1_WireShort.j0 k (n : Int) (m : Int) s a3 t1 t2 t3 true else endonymlaw1_WireShort.j0 k (n : Int) (m : Int) s a3 t1 t2 t3 ((t3.length : Int) == 0)))) (fun k => ?_) ?_
  · unfold endonymlaw1_WireShort.f
    rw [i64_and63bits, i64_and63bits, hn, hm]
    rfl
  refine Ev.bind (uint_is n hn2) ?_
  refine Ev.bind (uint_is m hm2) ?_
  refine Ev.bind (text_is s hs) ?_
  refine Ev.congr (fun k => ?_) (short_j0 n m hn2 hm2 s hs a3)
  rw [ints_length, ints_length, ints_length, if_neg (by omega), if_neg (by omega)]
  congr 1
  rw [beq_eq_false_iff_ne]
  omega
end Go.Proofs.Ytgjmollnjlkjhaa.Pure
