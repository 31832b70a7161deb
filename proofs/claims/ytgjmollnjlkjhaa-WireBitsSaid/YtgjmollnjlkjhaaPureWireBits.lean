/- Bytes (at most 4,096) of which one to three bits, or bits within 32 that follow one another, are turned over have another Sum: for every list of bytes, every three places and every pattern, as Go's law asks it (WireBits). -/
import Derived.Test.YtgjmollnjlkjhaaQx4
import Derived.Test.YtgjmollnjlkjhaaSumLaw
namespace Go.Proofs.Ytgjmollnjlkjhaa.Pure
open Go Go.RowKit Go.Proofs.Ytgjmollnjlkjhaa.Q Go.Proofs.YtgjmollnjlkjhaaW.PrintWords Go.Proofs.YtgjmollnjlkjhaaW.PrintLast Go.Proofs.YtgjmollnjlkjhaaW.PrintMore Go.Proofs.Ytgjmollnjlkjhaa.Base Go.Proofs.Ytgjmollnjlkjhaa.Crc Go.Proofs.Ytgjmollnjlkjhaa.SumLaw
set_option linter.unusedVariables false

/-- A place among n bits. -/
def pos (x : Int) (n : Nat) : Nat := (x % 1099511627776).toNat % n
theorem pos_is (x : Int) (L : List Nat) (hn : L.length ≤ 4096) : Int.tmod (bits .and .i64 x 1099511627775) (wrap64 (8 * ((ints L).length : Int))) = ((pos x (8 * L.length) : Nat) : Int) := by
  rw [i64_and40, ints_length, w64 _ (by omega) (by omega), Int.tmod_eq_emod_of_nonneg (by omega)]
  unfold pos
  rw [Int.natCast_emod]
  congr 1
  omega
theorem burst_succ (l : List Nat) (p x m : Nat) : burst l p x (m + 1) = if p + m < 8 * l.length ∧ x.testBit m then Crc.flip (burst l p x m) (p + m) else burst l p x m := rfl
theorem bits_end (L : List Nat) (hL : ∀ c ∈ L, c < 256) (hn : L.length ≤ 4096) (x4 x13 x14 x15 : Int) (C D : List Nat) (hC : ∀ c ∈ C, c < 256) (hD : ∀ c ∈ D, c < 256) (lC : C.length = L.length) (lD : D.length = L.length)
    (nC : total C ≠ total L) (nD : D = L ∨ total D ≠ total L) : Ev (fun k => endonymlaw1_WireBits.j5 k (ints L) x4 (ints C) (ints D) x13 x14 x15 false) true := by
  refine Ev.step (f := fun k => (wire_Sum.f k [ints L]).bind fun t192 => (endonymlaw1_told.f).bind fun t193 => (if t193 = true then ((wire_Sum.f k [ints C]).bind fun t197 => (if t197 = t192 then (some false) else (if (strOfNums (ints D)).toList = (strOfNums (ints L)).toList then (some true) else ((wire_Sum.f k [ints D]).bind fun t201 => (some (t201 != t192)))))) else (some false))) (fun k => ?_) ?_
  · simp only [endonymlaw1_WireBits.j5]
    rw [if_neg (by decide)]
  refine Ev.bind (sum_one L hL (by omega)) ?_
  refine Ev.congr (f := fun k => (wire_Sum.f k [ints C]).bind fun t197 => (if t197 = (total L : Int) then (some false) else (if (strOfNums (ints D)).toList = (strOfNums (ints L)).toList then (some true) else ((wire_Sum.f k [ints D]).bind fun t201 => (some (t201 != (total L : Int))))))) (fun k => ?_) ?_
  · simp [endonymlaw1_told.f]
  refine Ev.bind (sum_one C hC (by omega)) ?_
  have h1 : ¬ ((total C : Int) = (total L : Int)) := by omega
  by_cases hs : (strOfNums (ints D)).toList = (strOfNums (ints L)).toList
  · refine Ev.congr (f := fun _ => some true) (fun k => ?_) (Ev.now _)
    rw [if_neg h1, if_pos hs]
  · have hDL : total D ≠ total L := nD.resolve_left (fun e => hs (by rw [e]))
    refine Ev.congr (f := fun k => (wire_Sum.f k [ints D]).bind fun t201 => (some (t201 != (total L : Int)))) (fun k => ?_) ?_
    · rw [if_neg h1, if_neg hs]
    refine Ev.bind (sum_one D hD (by omega)) ?_
    refine Ev.congr (f := fun _ => some true) (fun k => ?_) (Ev.now _)
    have : ((total D : Int) != (total L : Int)) = true := by rw [bne_iff_ne]; omega
    rw [this]
theorem bits_loop (L : List Nat) (hL : ∀ c ∈ L, c < 256) (h0 : L.length ≠ 0) (hn : L.length ≤ 4096) (x : Nat) (hx : x < 4294967296) (C : List Nat) (hC : ∀ c ∈ C, c < 256) (lC : C.length = L.length) (nC : total C ≠ total L) (p : Nat) (hp : p < 8 * L.length) : ∀ (d m : Nat), m + d = 32 →
    Ev (fun k => endonymlaw1_WireBits.l0 k (ints L) (x : Int) (ints C) (ints (burst L p x m)) (wrap64 (8 * ((ints L).length : Int))) (p : Int) (m : Int)) true := by
  intro d
  have hw : wrap64 (8 * ((ints L).length : Int)) = ((8 * L.length : Nat) : Int) := by rw [ints_length, w64 _ (by omega) (by omega)]; omega
  have hend : Ev (fun k => endonymlaw1_WireBits.j5 k (ints L) (x : Int) (ints C) (ints (burst L p x 32)) (wrap64 (8 * ((ints L).length : Int))) (p : Int) 32 false) true := by
    refine bits_end L hL hn _ _ _ _ C _ hC (burst_lt hL p x 32) lC (burst_length ..) nC ?_
    rcases burst_ne L 4294967295 p x with h | h
    · exact .inl h
    · exact .inr (fun e => h (total_inj e))
  induction d with
  | zero =>
    intro m hm
    obtain rfl : m = 32 := by omega
    refine Ev.step (fun k => ?_) hend
    simp only [endonymlaw1_WireBits.l0]
    rw [if_neg (by omega)]
    rfl
  | succ d ih =>
    intro m hm
    have hm32 : (m : Int) < 32 := by omega
    have hl := burst_length L p x m
    by_cases hin : p + m < 8 * L.length
    · have hdec : decide ((wrap64 ((p : Int) + (m : Int))) < wrap64 (8 * ((ints L).length : Int))) = true := by
        rw [hw, w64 _ (by omega) (by omega)]
        exact decide_eq_true (by omega)
      have hsh : bits .and .u32 (shr .u32 (x : Int) (IntKind.u64.wrap (m : Int))) 1 = ((x / 2 ^ m % 2 : Nat) : Int) := by
        rw [u64w _ (by omega) (by omega)]
        unfold shr
        have e : min (m : Int).toNat IntKind.u32.bits = m := by
          have : IntKind.u32.bits = 32 := rfl
          omega
        rw [e]
        have e2 : (x : Int) / 2 ^ m = ((x / 2 ^ m : Nat) : Int) := by
          rw [Int.natCast_ediv]
          simp
        rw [e2, u32and1 _ (Nat.lt_of_le_of_lt (Nat.div_le_self _ _) hx)]
      have hbit : x.testBit m = decide (x / 2 ^ m % 2 = 1) := by rw [Nat.testBit_eq_decide_div_mod_eq]
      have hnext := ih (m + 1) (by omega)
      refine Ev.step (f := fun k => endonymlaw1_WireBits.j5 k (ints L) (x : Int) (ints C) (ints (burst L p x m)) (wrap64 (8 * ((ints L).length : Int))) (p : Int) (m : Int) true) (fun k => ?_) ?_
      · simp only [endonymlaw1_WireBits.l0]
        rw [if_pos hm32, hdec]
      refine Ev.step (fun k => ?_) hnext
      simp only [endonymlaw1_WireBits.j5]
      rw [if_pos trivial, if_pos (by rw [u64w _ (by omega) (by omega)]; omega), hsh, w64 ((m : Int) + 1) (by omega) (by omega)]
      rw [burst_succ]
      by_cases hb : x / 2 ^ m % 2 = 1
      · rw [if_pos (by omega), w64 _ (by omega) (by omega)]
        have hf := flip_is (burst L p x m) (burst_lt hL p x m) (by omega) (p + m) (by omega)
        rw [Int.natCast_add] at hf
        rw [hf, if_pos ⟨hin, by rw [hbit]; exact decide_eq_true hb⟩]
        rfl
      · rw [if_neg (by omega), if_neg (by rintro ⟨_, h⟩; rw [hbit] at h; exact hb (of_decide_eq_true h))]
        rfl
    · have hb : burst L p x 32 = burst L p x m := by
        have key : ∀ e, burst L p x (m + e) = burst L p x m := by
          intro e
          induction e with
          | zero => rfl
          | succ e ihe =>
            rw [← Nat.add_assoc]
            rw [burst_succ, if_neg (by omega), ihe]
        have := key (d + 1)
        rw [hm] at this
        exact this
      have hdec : decide ((wrap64 ((p : Int) + (m : Int))) < wrap64 (8 * ((ints L).length : Int))) = false := by
        rw [hw, w64 _ (by omega) (by omega)]
        exact decide_eq_false (by omega)
      refine Ev.step (f := fun k => endonymlaw1_WireBits.j5 k (ints L) (x : Int) (ints C) (ints (burst L p x m)) (wrap64 (8 * ((ints L).length : Int))) (p : Int) (m : Int) false) (fun k => ?_) ?_
      · simp only [endonymlaw1_WireBits.l0]
        rw [if_pos hm32, hdec]
      rw [← hb]
      refine bits_end L hL hn _ _ _ _ C _ hC (burst_lt hL p x 32) lC (burst_length ..) nC ?_
      rcases burst_ne L 4294967295 p x with h | h
      · exact .inl h
      · exact .inr (fun e => h (total_inj e))
theorem bits_j3 (L : List Nat) (hL : ∀ c ∈ L, c < 256) (h0 : L.length ≠ 0) (hn : L.length ≤ 4096) (x : Nat) (hx : x < 4294967296) (C : List Nat) (hC : ∀ c ∈ C, c < 256) (lC : C.length = L.length) (nC : total C ≠ total L) (p : Nat) (hp : p < 8 * L.length) :
    Ev (fun k => endonymlaw1_WireBits.j3 k (ints L) (x : Int) (ints C) (ints L) (wrap64 (8 * ((ints L).length : Int))) (p : Int)) true := by
  refine Ev.step (fun k => ?_) (bits_loop L hL h0 hn x hx C hC lC nC p hp 32 0 (by omega))
  simp only [endonymlaw1_WireBits.j3]
  rfl
theorem flips_total {L : List Nat} (hL : ∀ c ∈ L, c < 256) {C : List Nat} (h : crc 4294967295 C ≠ crc 4294967295 L) : total C ≠ total L := fun e => h (total_inj e)

theorem bits_third (L : List Nat) (hL : ∀ c ∈ L, c < 256) (h0 : L.length ≠ 0) (hn : L.length ≤ 4096) (a1 a2 a3 : Int) (x : Nat) (hx : x < 4294967296) (C : List Nat) (hC : ∀ c ∈ C, c < 256) (lC : C.length = L.length)
    (t1 : ¬ (pos a3 (8 * L.length) = pos a1 (8 * L.length)) → ¬ (pos a3 (8 * L.length) = pos a2 (8 * L.length)) → total (Crc.flip C (pos a3 (8 * L.length))) ≠ total L) (t2 : total C ≠ total L) :
    Ev (fun k => endonymlaw1_WireBits.j1 k (ints L) a1 a2 a3 (x : Int) (ints C) (ints L) (wrap64 (8 * ((ints L).length : Int)))) true := by
  have hpos : ∀ y : Int, pos y (8 * L.length) < 8 * L.length := fun y => Nat.mod_lt _ (by omega)
  have hw : wrap64 (8 * ((ints L).length : Int)) = ((8 * L.length : Nat) : Int) := by rw [ints_length, w64 _ (by omega) (by omega)]; omega
  have hw0 : ¬ (wrap64 (8 * ((ints L).length : Int)) = 0) := by rw [hw]; omega
  have f3 := flip_is C hC (by omega) (pos a3 (8 * L.length)) (by rw [lC]; exact hpos a3)
  have last : ∀ b : Bool, (b = true → ¬ (pos a3 (8 * L.length) = pos a1 (8 * L.length)) ∧ ¬ (pos a3 (8 * L.length) = pos a2 (8 * L.length))) →
      Ev (fun k => endonymlaw1_WireBits.j2 k (ints L) (x : Int) (ints C) (ints L) (wrap64 (8 * ((ints L).length : Int))) ((pos a3 (8 * L.length) : Nat) : Int) b) true := by
    intro b hb
    cases b with
    | false =>
      refine Ev.step (fun k => ?_) (bits_j3 L hL h0 hn x hx C hC lC t2 (pos a3 (8 * L.length)) (hpos a3))
      simp only [endonymlaw1_WireBits.j2]
      rw [if_neg (by decide)]
    | true =>
      obtain ⟨g1, g2⟩ := hb rfl
      refine Ev.step (fun k => ?_) (bits_j3 L hL h0 hn x hx (flip C (pos a3 (8 * L.length))) (flip_lt hC _) (by rw [flip_length, lC]) (t1 g1 g2) (pos a3 (8 * L.length)) (hpos a3))
      simp only [endonymlaw1_WireBits.j2]
      rw [if_pos trivial, f3, Option.bind_some]
  by_cases e1 : pos a3 (8 * L.length) = pos a1 (8 * L.length)
  · refine Ev.step (fun k => ?_) (last false (fun h => by cases h))
    simp only [endonymlaw1_WireBits.j1]
    rw [if_neg hw0, pos_is a3 L hn, pos_is a1 L hn, if_pos (by rw [e1])]
  · refine Ev.step (fun k => ?_) (last (((pos a3 (8 * L.length) : Nat) : Int) != ((pos a2 (8 * L.length) : Nat) : Int)) (fun h => ⟨e1, fun e => by rw [e] at h; simp at h⟩))
    simp only [endonymlaw1_WireBits.j1]
    rw [if_neg hw0, pos_is a3 L hn, pos_is a1 L hn, pos_is a2 L hn, if_neg (by omega)]
theorem bits_none (L : List Nat) (a1 a2 a3 x : Int) (h : L.length = 0 ∨ 4096 < L.length) : ∃ k, endonymlaw1_WireBits.f k (ints L) a1 a2 a3 x = some true := by
  have hj : Ev (fun k => endonymlaw1_WireBits.j0 k (ints L) a1 a2 a3 x true) true := by
    refine Ev.step (fun k => ?_) (Ev.now true)
    simp only [endonymlaw1_WireBits.j0]
    rw [if_pos trivial]
    rfl
  refine Ev.rounds (g := fun k => endonymlaw1_WireBits.f k (ints L) a1 a2 a3 x) (Ev.congr (fun k => ?_) hj)
  unfold endonymlaw1_WireBits.f
  by_cases h0 : ((ints L).length : Int) = 0
  · rw [if_pos h0]
  · rw [ints_length] at h0
    rw [ints_length, if_neg h0, decide_eq_true (show (L.length : Int) > 4096 by omega)]
theorem bits_start (L : List Nat) (hL : ∀ c ∈ L, c < 256) (h0 : L.length ≠ 0) (hn : L.length ≤ 4096) (a1 a2 a3 : Int) (x : Nat) (hx : x < 4294967296) :
    Ev (fun k => endonymlaw1_WireBits.j0 k (ints L) a1 a2 a3 (x : Int) false) true := by
  have hpos : ∀ y : Int, pos y (8 * L.length) < 8 * L.length := fun y => Nat.mod_lt _ (by omega)
  have hw : wrap64 (8 * ((ints L).length : Int)) = ((8 * L.length : Nat) : Int) := by rw [ints_length, w64 _ (by omega) (by omega)]; omega
  have hw0 : ¬ (wrap64 (8 * ((ints L).length : Int)) = 0) := by rw [hw]; omega
  have f1 := flip_is L hL (by omega) (pos a1 (8 * L.length)) (hpos a1)
  have f2 := flip_is (flip L (pos a1 (8 * L.length))) (flip_lt hL _) (by rw [flip_length]; omega) (pos a2 (8 * L.length)) (by rw [flip_length]; exact hpos a2)
  have g0 : total (flip L (pos a1 (8 * L.length))) ≠ total L := flips_total hL (flip1_ne L _ _ (hpos a1))
  by_cases e2 : pos a2 (8 * L.length) = pos a1 (8 * L.length)
  · refine Ev.step (fun k => ?_) (bits_third L hL h0 hn a1 a2 a3 x hx (flip L (pos a1 (8 * L.length))) (flip_lt hL _) (flip_length ..) (fun q1 q2 => flips_total hL (flip2_ne L _ _ _ hn (hpos a1) (hpos a3) (fun e => q1 e.symm))) g0)
    simp only [endonymlaw1_WireBits.j0]
    rw [if_neg (by decide), if_pos (by simp; rw [ints_length]; omega)]
    rw [List.nil_append, Option.bind_some, if_neg hw0, pos_is a1 L hn, f1, Option.bind_some, pos_is a2 L hn, if_pos (by rw [e2])]
  · refine Ev.step (fun k => ?_) (bits_third L hL h0 hn a1 a2 a3 x hx (flip (flip L (pos a1 (8 * L.length))) (pos a2 (8 * L.length))) (flip_lt (flip_lt hL _) _) (by rw [flip_length, flip_length]) (fun q1 q2 => flips_total hL (flip3_ne L _ _ _ _ (hpos a1) (hpos a2) (hpos a3))) (flips_total hL (flip2_ne L _ _ _ hn (hpos a1) (hpos a2) (fun e => e2 e.symm))))
    simp only [endonymlaw1_WireBits.j0]
    rw [if_neg (by decide), if_pos (by simp; rw [ints_length]; omega)]
    rw [List.nil_append, Option.bind_some, if_neg hw0, pos_is a1 L hn, f1, Option.bind_some, pos_is a2 L hn, if_neg (by omega), f2, Option.bind_some]
theorem WireBits : endonymlaw1_WireBits.Pure := by
  intro l0 a1 a2 a3 a4 _ _ hl _ _ _ h4
  obtain ⟨L, rfl, hL⟩ := nats_of_wf hl
  obtain ⟨b0, b1⟩ := bounds_u32 h4
  obtain ⟨x, rfl⟩ := Int.eq_ofNat_of_zero_le b0
  have hx : x < 4294967296 := by omega
  by_cases h0 : L.length = 0
  · exact bits_none L a1 a2 a3 x (.inl h0)
  by_cases hn : L.length ≤ 4096
  · refine Ev.rounds (g := fun k => endonymlaw1_WireBits.f k (ints L) a1 a2 a3 (x : Int)) (Ev.congr (fun k => ?_) (bits_start L hL h0 hn a1 a2 a3 x hx))
    unfold endonymlaw1_WireBits.f
    rw [ints_length, if_neg (by omega), decide_eq_false (by omega)]
  · exact bits_none L a1 a2 a3 x (.inr (by omega))
end Go.Proofs.Ytgjmollnjlkjhaa.Pure
