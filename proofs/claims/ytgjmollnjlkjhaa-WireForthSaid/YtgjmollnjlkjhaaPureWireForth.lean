/- What Reads read is written just so by Uint, Text and Float: for every bytes, position and bound (WireForth). -/
import Derived.Test.YtgjmollnjlkjhaaQx10
import Derived.Test.YtgjmollnjlkjhaaTextLaw
import Derived.Test.YtgjmollnjlkjhaaFloatLaw
namespace Go.Proofs.Ytgjmollnjlkjhaa.Pure
open Go Go.RowKit Go.Proofs.Ytgjmollnjlkjhaa.Q Go.Proofs.YtgjmollnjlkjhaaW.PrintWords Go.Proofs.YtgjmollnjlkjhaaW.PrintLast Go.Proofs.YtgjmollnjlkjhaaW.PrintMore Go.Proofs.Ytgjmollnjlkjhaa.Base Go.Proofs.Ytgjmollnjlkjhaa.WireLaw Go.Proofs.Ytgjmollnjlkjhaa.TextLaw Go.Proofs.Ytgjmollnjlkjhaa.FloatLaw
set_option linter.unusedVariables false

theorem cut_ints (B : List Nat) (a p : Nat) : ((ints B).take p).drop a = ints ((B.drop a).take (p - a)) := by
  simp [ints, List.map_take, List.map_drop, List.drop_take]
theorem nb_str (L : List Nat) (hL : ∀ c ∈ L, c < 256) : nb (strOfNums (ints L)) = L := by
  rw [nb, strOfNums_data]
  simp only [ints, List.map_map]
  refine (List.map_congr_left fun c hc => ?_).trans (List.map_id _)
  have := hL c hc
  simp [Function.comp, Nat.mod_eq_of_lt this]
theorem uint_ok {B : List Nat} (hB : ∀ c ∈ B, c < 256) {at_ : Int} (h : (readu B at_).2.2 = 0) : ∃ a n m : Nat, at_ = a ∧ 0 < m ∧ a + m ≤ B.length ∧ n < 9223372036854775808 ∧ readu B at_ = ((n : Int), ((a + m : Nat) : Int), 0) ∧ enc n = (B.drop a).take m := by
  obtain ⟨a, n, j, h1, h2, h3, h4, h5, h6, h7⟩ := readu_ok hB h
  have h8 : 128 ^ (j + 1) ≤ 128 ^ 9 := Nat.pow_le_pow_right (by decide) (by omega)
  have h9 : (128 : Nat) ^ 9 = 9223372036854775808 := by decide
  exact ⟨a, n, j + 1, h1, by omega, h2, by omega, h5, by rw [enc, encF_more j 8 n h3 (by omega), h6]⟩
theorem text_ok {B : List Nat} (hB : ∀ c ∈ B, c < 256) {at_ most : Int} (h : (readt B at_ most).2.2 = 0) : ∃ (a m : Nat) (s : ByteArray), at_ = a ∧ 0 < m ∧ a + m ≤ B.length ∧ s.size ≤ B.length ∧ readt B at_ most = (s, ((a + m : Nat) : Int), 0) ∧ text s = (B.drop a).take m := by
  unfold readt at h ⊢
  by_cases h1 : at_ < 0 ∨ at_ > (B.length : Int) ∨ most < 0
  · rw [if_pos h1] at h; simp at h
  rw [if_neg h1] at h ⊢
  by_cases h2 : (readu B at_).2.2 ≠ 0
  · rw [if_pos h2] at h; exact absurd h h2
  rw [if_neg h2] at h ⊢
  by_cases h3 : (readu B at_).1 > most
  · rw [if_pos h3] at h; simp at h
  rw [if_neg h3] at h ⊢
  by_cases h4 : (readu B at_).2.1 + (readu B at_).1 ≤ (B.length : Int)
  · rw [if_pos h4]
    obtain ⟨a, n, m, e1, e2, e3, e4, e5, e6⟩ := uint_ok hB (Classical.not_not.1 h2)
    rw [e5] at h4 ⊢
    dsimp only at h4 ⊢
    rw [Int.toNat_natCast, Int.toNat_natCast]
    have hc : ∀ c ∈ (B.drop (a + m)).take n, c < 256 := fun c hc => hB c (List.mem_of_mem_drop (List.mem_of_mem_take hc))
    have hs : (strOfNums (ints ((B.drop (a + m)).take n))).size = n := by
      rw [← nb_length, nb_str _ hc, List.length_take, List.length_drop]
      omega
    refine ⟨a, m + n, strOfNums (ints ((B.drop (a + m)).take n)), e1, by omega, by omega, by rw [hs]; omega, ?_, ?_⟩
    · have e7 : ((a + m : Nat) : Int) + (n : Int) = ((a + (m + n) : Nat) : Int) := by omega
      rw [e7]
    · rw [text, hs, nb_str _ hc, e6, List.take_add, List.drop_drop]
  · rw [if_neg h4] at h; simp at h
theorem float_ok {B : List Nat} (hB : ∀ c ∈ B, c < 256) {at_ : Int} (h : (readf B at_).2.2 = 0) : ∃ a u : Nat, at_ = a ∧ a + 8 ≤ B.length ∧ readf B at_ = (u, (a : Int) + 8, 0) ∧ f8 u = (B.drop a).take 8 := by
  unfold readf at h ⊢
  by_cases h1 : at_ < 0 ∨ at_ > (B.length : Int)
  · rw [if_pos h1] at h; simp at h
  rw [if_neg h1] at h ⊢
  by_cases h2 : at_ + 8 ≤ (B.length : Int)
  · rw [if_pos h2]
    obtain ⟨a, rfl⟩ := Int.eq_ofNat_of_zero_le (show 0 ≤ at_ by omega)
    rw [Int.toNat_natCast]
    exact ⟨a, _, rfl, by omega, rfl, f8_val (fun c hc => hB c (List.mem_of_mem_drop (List.mem_of_mem_take hc))) (by rw [List.length_take, List.length_drop]; omega)⟩
  · rw [if_neg h2] at h; simp at h

theorem forth_j1 (B : List Nat) (hB : ∀ c ∈ B, c < 256) (hl : B.length ≤ 140737488351232) (at_ : Int) : Ev (fun k => endonymlaw1_WireForth.j1 k (ints B) at_ false) true := by
  by_cases h : (readf B at_).2.2 = 0
  · obtain ⟨a, u, rfl, h1, h2, h3⟩ := float_ok hB h
    obtain ⟨k1, g1⟩ := float_is u
    refine ⟨k1 + 1, fun k hk => ?_⟩
    obtain ⟨q, rfl⟩ : ∃ q, k = q + 1 := ⟨k - 1, by omega⟩
    have e1 : wire_Float.f q u = _ := g1 q (by omega)
    have hw : wrap64 ((a : Int) + 8) = (a : Int) + 8 := by rw [w64 _ (by omega) (by omega)]
    have hcut := cut_ints B a (a + 8)
    rw [Nat.add_sub_cancel_left, ← h3] at hcut
    have hz : ((a : Int) + 8).toNat = a + 8 := by omega
    show endonymlaw1_WireForth.j1 (q + 1) (ints B) a false = some true
    rw [endonymlaw1_WireForth.j1, if_neg (by decide), rf_is B hB, Option.bind_some, h2]
    dsimp only
    rw [if_pos rfl, if_pos (by omega), hw, if_pos rfl, ints_length, if_pos (by omega)]
    by_cases hn : (FloatKind.f64.format.order u u != some .eq) = true
    · rw [if_pos hn]
    · rw [if_neg hn, e1, Option.bind_some, if_pos (by omega), if_pos (by omega), hz, Int.toNat_natCast, hcut, beq_self_eq_true]
  · refine ⟨1, fun k hk => ?_⟩
    obtain ⟨q, rfl⟩ : ∃ q, k = q + 1 := ⟨k - 1, by omega⟩
    show endonymlaw1_WireForth.j1 (q + 1) (ints B) at_ false = some true
    rw [endonymlaw1_WireForth.j1, if_neg (by decide), rf_is B hB, Option.bind_some, if_neg h]

theorem forth_j0 (B : List Nat) (hB : ∀ c ∈ B, c < 256) (hl : B.length ≤ 140737488351232) (at_ most : Int) : Ev (fun k => endonymlaw1_WireForth.j0 k (ints B) at_ most false) true := by
  obtain ⟨k0, g0⟩ := rt_is B hB (by omega) at_ most
  obtain ⟨k2, g2⟩ := forth_j1 B hB hl at_
  by_cases h : (readt B at_ most).2.2 = 0
  · obtain ⟨a, m, s, rfl, h0, h1, h1s, h2, h3⟩ := text_ok hB h
    obtain ⟨k1, g1⟩ := text_is s (by omega)
    refine ⟨k0 + k1 + k2 + 1, fun k hk => ?_⟩
    obtain ⟨q, rfl⟩ : ∃ q, k = q + 1 := ⟨k - 1, by omega⟩
    have e0 : wire_ReadText.f q (ints B) a most = _ := g0 q (by omega)
    have e1 : wire_Text.f q s = _ := g1 q (by omega)
    have e2 : endonymlaw1_WireForth.j1 q (ints B) a false = _ := g2 q (by omega)
    have hcut := cut_ints B a (a + m)
    rw [Nat.add_sub_cancel_left, ← h3] at hcut
    show endonymlaw1_WireForth.j0 (q + 1) (ints B) a most false = some true
    rw [endonymlaw1_WireForth.j0, if_neg (by decide), e0, Option.bind_some, h2]
    dsimp only
    rw [if_pos rfl, if_neg (by omega), if_neg (by rw [ints_length]; omega), if_neg (by omega), e1, Option.bind_some, if_pos (by omega), if_pos (by omega), if_pos (by rw [ints_length]; omega), Int.toNat_natCast, Int.toNat_natCast, hcut, bne_self_eq_false, e2]
  · refine ⟨k0 + k2 + 1, fun k hk => ?_⟩
    obtain ⟨q, rfl⟩ : ∃ q, k = q + 1 := ⟨k - 1, by omega⟩
    have e0 : wire_ReadText.f q (ints B) at_ most = _ := g0 q (by omega)
    have e2 : endonymlaw1_WireForth.j1 q (ints B) at_ false = _ := g2 q (by omega)
    show endonymlaw1_WireForth.j0 (q + 1) (ints B) at_ most false = some true
    rw [endonymlaw1_WireForth.j0, if_neg (by decide), e0, Option.bind_some, if_neg h, e2]

theorem WireForth : endonymlaw1_WireForth.Pure := by
  intro l0 at_ most _ hlen hl _ _
  obtain ⟨B, rfl, hB⟩ := nats_of_wf hl
  rw [ints_length] at hlen
  have hlen' : B.length ≤ 140737488351232 := by omega
  obtain ⟨k0, g0⟩ := read_is B hB (by omega) at_
  obtain ⟨k2, g2⟩ := forth_j0 B hB hlen' at_ most
  have hT : endonymlaw1_told.f = some true := rfl
  by_cases h : (readu B at_).2.2 = 0
  · obtain ⟨a, n, m, rfl, h0, h1, h1s, h2, h3⟩ := uint_ok hB h
    obtain ⟨k1, g1⟩ := uint_is n h1s
    have e0 : wire_ReadUint.f (k0 + k1 + k2) (ints B) a = _ := g0 (k0 + k1 + k2) (by omega)
    have e1 : wire_Uint.f (k0 + k1 + k2) n = _ := g1 (k0 + k1 + k2) (by omega)
    have e2 : endonymlaw1_WireForth.j0 (k0 + k1 + k2) (ints B) a most false = _ := g2 (k0 + k1 + k2) (by omega)
    have hcut := cut_ints B a (a + m)
    rw [Nat.add_sub_cancel_left, ← h3] at hcut
    refine ⟨k0 + k1 + k2, ?_⟩
    rw [endonymlaw1_WireForth.f, hT, Option.bind_some, if_pos rfl, e0, Option.bind_some, h2]
    dsimp only
    rw [if_pos rfl, if_neg (by omega), if_neg (by rw [ints_length]; omega), if_neg (by omega), e1, Option.bind_some, if_pos (by omega), if_pos (by omega), if_pos (by rw [ints_length]; omega), Int.toNat_natCast, Int.toNat_natCast, hcut, bne_self_eq_false, e2]
  · have e0 : wire_ReadUint.f (k0 + k2) (ints B) at_ = _ := g0 (k0 + k2) (by omega)
    have e2 : endonymlaw1_WireForth.j0 (k0 + k2) (ints B) at_ most false = _ := g2 (k0 + k2) (by omega)
    refine ⟨k0 + k2, ?_⟩
    rw [endonymlaw1_WireForth.f, hT, Option.bind_some, if_pos rfl, e0, Option.bind_some, if_neg h, e2]
end Go.Proofs.Ytgjmollnjlkjhaa.Pure
