/- Plain law: two records of a family are at odds if some number is spoken of by both. -/
import Derived.Test.YtcpdnpaedkcebaaXj
import Derived.Test.YtcpdnpaedkcebaaXd
namespace Go.Proofs.Ytcpdnpaedkcebaa.V
open Go Go.RowKit
set_option linter.unusedVariables false
set_option linter.unusedSimpArgs false
/-- A record's step. -/
def st (r : Rec) : Int := if r.kind = 4 then r.n else 1
/-- A record that may be asked: a span, a step. -/
def Rec.span (r : Rec) : Prop := r.ok ∧ r.kind ≠ 15 ∧ 0 ≤ r.lo ∧ r.lo ≤ r.hi ∧ r.hi ≤ 1114111 ∧ 1 ≤ st r ∧ st r ≤ 64
/-- A record speaks of a number. -/
def Says (r : Rec) (c : Int) : Prop := r.lo ≤ c ∧ c ≤ r.hi ∧ st r ∣ c - r.lo
theorem u64_id {c : Int} (h : 0 ≤ c) (h2 : c ≤ 2000000) : IntKind.u64.wrap c = c := by rw [wrap_u64]; omega
theorem i64_id {c : Int} (h : -9000000000 ≤ c) (h2 : c ≤ 9000000000) : IntKind.i64.wrap c = c := by rw [wrap_i64]; omega
theorem tmod_zero {a b : Int} (ha : 0 ≤ a) : a.tmod b = 0 ↔ b ∣ a := Int.dvd_iff_tmod_eq_zero.symm
theorem speaksR_iff {r : Rec} (h : r.span) (c : Int) : speaksR r c = true ↔ Says r c := by
  obtain ⟨_, h15, h1, h2, h3, h4, h5⟩ := h
  unfold speaksR Says st at *
  by_cases hc : ((c < r.lo ∨ r.hi < c) ∨ c < 0) ∨ 1114111 < c
  · rw [if_pos hc]
    simp only [Bool.false_eq_true, false_iff]
    intro ⟨a, b, _⟩
    omega
  · rw [if_neg hc]
    have hlo : r.lo ≤ c := by omega
    have hhi : c ≤ r.hi := by omega
    by_cases h4' : r.kind = 4
    · simp only [h4', if_true] at h4 h5 ⊢
      rw [u64_id (c := c) (by omega) (by omega), u64_id (c := r.lo) (by omega) (by omega), u64_id (c := r.n) (by omega) (by omega), u64_id (by omega) (by omega)]
      simp only [decide_true, Bool.not_true, Bool.false_or, Bool.and_eq_true, decide_eq_true_eq, beq_iff_eq]
      rw [tmod_zero (by omega)]
      exact ⟨fun h => ⟨hlo, hhi, h.2⟩, fun h => ⟨by omega, h.2.2⟩⟩
    · simp only [h4', decide_false, Bool.not_false, Bool.true_or, if_false, true_iff]
      exact ⟨hlo, hhi, Int.one_dvd _⟩
theorem speaksF_iff {r : Rec} (h : r.span) (c : Int) : speaksF r c = true ↔ Says r c := by
  obtain ⟨_, h15, h1, h2, h3, h4, h5⟩ := h
  have hs : stepR r = st r := by
    unfold stepR st at *
    split
    · rename_i hk; rw [if_pos hk] at h4; rw [if_neg (by omega)]
    · rfl
  unfold speaksF Says
  rw [hs]
  by_cases hc : r.lo ≤ c ∧ c ≤ r.hi
  · rw [u64_id (c := c) (by omega) (by omega), u64_id (c := r.lo) (by omega) (by omega), u64_id (c := st r) (by omega) (by omega), u64_id (by omega) (by omega)]
    simp only [Bool.and_eq_true, decide_eq_true_eq, Bool.not_eq_true', decide_eq_false_iff_not]
    rw [tmod_zero (by omega)]
    constructor
    · rintro ⟨⟨⟨⟨⟨⟨_, _⟩, _⟩, _⟩, a⟩, b⟩, d⟩; exact ⟨a, b, d⟩
    · rintro ⟨a, b, d⟩; exact ⟨⟨⟨⟨⟨⟨h15, by omega⟩, by omega⟩, by omega⟩, a⟩, b⟩, d⟩
  · simp only [Bool.and_eq_true, decide_eq_true_eq, Bool.not_eq_true', decide_eq_false_iff_not]
    constructor
    · rintro ⟨⟨⟨⟨⟨⟨_, _⟩, _⟩, _⟩, a⟩, b⟩, d⟩; exact absurd ⟨a, b⟩ hc
    · rintro ⟨a, b, d⟩; omega
/-- Some number is spoken of by both. -/
def Meets (a b : Rec) : Prop := ∃ c, Says a c ∧ Says b c
theorem Meets.symm {a b : Rec} (h : Meets a b) : Meets b a := let ⟨c, h1, h2⟩ := h; ⟨c, h2, h1⟩
/-- 64 steps are enough. -/
theorem meets_iff {a b : Rec} (ha : a.span) (hb : b.span) {c0 : Int} (q0 : Int) (hc0 : c0 = a.lo + q0 * st a) (h1 : max a.lo b.lo ≤ c0) (h2 : c0 < max a.lo b.lo + st a) :
    Meets a b ↔ ∃ j : Nat, j < 64 ∧ c0 + j * st a ≤ min a.hi b.hi ∧ Says b (c0 + j * st a) := by
  obtain ⟨_, _, a1, a2, a3, a4, a5⟩ := ha
  obtain ⟨_, _, b1, b2, b3, b4, b5⟩ := hb
  constructor
  · rintro ⟨c, ⟨p1, p2, q, hq⟩, r1, r2, s, hs⟩
    have e : c = a.lo + st a * q := by omega
    have hqq : q0 ≤ q := by
      rcases Int.lt_or_le q q0 with h | h
      · exfalso
        have : st a * (q + 1) ≤ st a * q0 := Int.mul_le_mul_of_nonneg_left (by omega) (by omega)
        rw [Int.mul_add, Int.mul_one] at this
        rw [Int.mul_comm q0] at hc0
        omega
      · exact h
    have hm : (q - q0) % st b < st b := Int.emod_lt_of_pos _ (by omega)
    have hm0 : 0 ≤ (q - q0) % st b := Int.emod_nonneg _ (by omega)
    have hle : (q - q0) % st b ≤ q - q0 := by
      have := Int.emod_add_mul_ediv (q - q0) (st b)
      have h3 : 0 ≤ (q - q0) / st b := Int.ediv_nonneg (by omega) (by omega)
      have h4 : 0 ≤ st b * ((q - q0) / st b) := Int.mul_nonneg (by omega) h3
      omega
    have hj : (((q - q0) % st b).toNat : Int) = (q - q0) % st b := Int.toNat_of_nonneg hm0
    have hdiff : c - (c0 + (q - q0) % st b * st a) = ((q - q0) - (q - q0) % st b) * st a := by
      rw [hc0, e, Int.sub_mul, Int.sub_mul, Int.mul_comm (st a) q]
      omega
    have hge : 0 ≤ ((q - q0) - (q - q0) % st b) * st a := Int.mul_nonneg (by omega) (by omega)
    have hpos : 0 ≤ (q - q0) % st b * st a := Int.mul_nonneg hm0 (by omega)
    refine ⟨((q - q0) % st b).toNat, by omega, ?_, ?_⟩
    · rw [hj]; omega
    · rw [hj]
      refine ⟨by omega, by omega, ?_⟩
      have hd1 : st b ∣ ((q - q0) - (q - q0) % st b) * st a := Int.dvd_mul_of_dvd_left Int.dvd_self_sub_emod
      have : c0 + (q - q0) % st b * st a - b.lo = st b * s - ((q - q0) - (q - q0) % st b) * st a := by omega
      rw [this]
      exact Int.dvd_sub (Int.dvd_mul_right _ _) hd1
  · rintro ⟨j, hj, h3, h4⟩
    refine ⟨c0 + j * st a, ⟨?_, by omega, ?_⟩, h4⟩
    · have : 0 ≤ (j : Int) * st a := Int.mul_nonneg (by omega) (by omega)
      omega
    · rw [hc0]
      have : a.lo + q0 * st a + j * st a - a.lo = (q0 + j) * st a := by rw [Int.add_mul]; omega
      rw [this]
      exact Int.dvd_mul_left _ _

/-- The first number of a progression from another on. -/
theorem first_spec {lo m s : Int} (h0 : 0 ≤ lo) (h1 : lo ≤ m) (h2 : m ≤ 1114111) (h3 : 1 ≤ s) (h4 : s ≤ 64) :
    ∃ q, IntKind.i64.wrap (lo + IntKind.i64.wrap (IntKind.i64.wrap ((IntKind.i64.wrap (IntKind.i64.wrap (IntKind.i64.wrap (m - lo) + s) - 1)).tdiv s) * s)) = lo + q * s ∧ m ≤ lo + q * s ∧ lo + q * s < m + s := by
  have e1 : IntKind.i64.wrap (m - lo) = m - lo := i64_id (by omega) (by omega)
  have e2 : IntKind.i64.wrap (m - lo + s) = m - lo + s := i64_id (by omega) (by omega)
  have e3 : IntKind.i64.wrap (m - lo + s - 1) = m - lo + s - 1 := i64_id (by omega) (by omega)
  have e4 : (m - lo + s - 1).tdiv s = (m - lo + s - 1) / s := Int.tdiv_eq_ediv_of_nonneg (by omega)
  have d1 := Int.emod_add_mul_ediv (m - lo + s - 1) s
  have d2 := Int.emod_nonneg (m - lo + s - 1) (show s ≠ 0 by omega)
  have d3 := Int.emod_lt_of_pos (m - lo + s - 1) (show 0 < s by omega)
  have d4 : 0 ≤ (m - lo + s - 1) / s := Int.ediv_nonneg (by omega) (by omega)
  have d5 : (m - lo + s - 1) / s * s = s * ((m - lo + s - 1) / s) := Int.mul_comm _ _
  have d6 : (m - lo + s - 1) / s ≤ m - lo + s - 1 := Int.ediv_le_self _ (by omega)
  refine ⟨(m - lo + s - 1) / s, ?_, by omega, by omega⟩
  rw [e1, e2, e3, e4, i64_id (c := (m - lo + s - 1) / s) (by omega) (by omega), i64_id (c := (m - lo + s - 1) / s * s) (by omega) (by omega), i64_id (by omega) (by omega)]
theorem clashC_iff {b : Rec} (hb : b.span) {hi s : Int} (h1 : 1 ≤ s) (h2 : s ≤ 64) : ∀ (k : Nat) (c : Int), 0 ≤ c → c + k * 64 ≤ 9000000 → (clashC b hi s k c = true ↔ ∃ j : Nat, j < k ∧ c + j * s ≤ hi ∧ Says b (c + j * s))
  | 0, c, _, _ => by simp [clashC]
  | k + 1, c, h0, h3 => by
    have hw : IntKind.i64.wrap (c + s) = c + s := i64_id (by omega) (by omega)
    have ih := clashC_iff hb (hi := hi) h1 h2 k (c + s) (by omega) (by omega)
    have step : (∃ j : Nat, j < k + 1 ∧ c + j * s ≤ hi ∧ Says b (c + j * s)) ↔ (c ≤ hi ∧ Says b c) ∨ ∃ j : Nat, j < k ∧ (c + s) + j * s ≤ hi ∧ Says b ((c + s) + j * s) := by
      have e : ∀ j : Nat, c + ((j + 1 : Nat) : Int) * s = (c + s) + j * s := fun j => by
        rw [Int.natCast_succ, Int.add_mul, Int.one_mul]; omega
      constructor
      · rintro ⟨j, hj, x, y⟩
        match j with
        | 0 => simp at x y; exact .inl ⟨x, y⟩
        | j + 1 => rw [e] at x y; exact .inr ⟨j, by omega, x, y⟩
      · rintro (⟨x, y⟩ | ⟨j, hj, x, y⟩)
        · exact ⟨0, by omega, by simpa using x, by simpa using y⟩
        · exact ⟨j + 1, by omega, by rw [e]; exact x, by rw [e]; exact y⟩
    rw [step, clashC, hw, ← ih]
    by_cases hc : c ≤ hi
    · rw [if_pos hc]
      by_cases hs : speaksF b c = true
      · rw [if_pos hs]; exact ⟨fun _ => .inl ⟨hc, (speaksF_iff hb c).1 hs⟩, fun _ => rfl⟩
      · rw [if_neg hs]
        exact ⟨.inr, fun h => h.resolve_left fun h => hs ((speaksF_iff hb c).2 h.2)⟩
    · rw [if_neg hc]
      refine ⟨fun h => (by cases h), fun h => ?_⟩
      rcases h with h | h
      · exact absurd h.1 hc
      · exfalso
        obtain ⟨j, _, x, _⟩ := ih.1 h
        have : 0 ≤ (j : Int) * s := Int.mul_nonneg (by omega) (by omega)
        omega
theorem meetC_iff {b : Rec} (hb : b.span) {hi s : Int} (h1 : 1 ≤ s) (h2 : s ≤ 64) : ∀ (k : Nat) (c : Int), 0 ≤ c → c + k * 64 ≤ 9000000 → meetC b hi s k c = clashC b hi s k c
  | 0, c, _, _ => rfl
  | k + 1, c, h0, h3 => by
    have hw : IntKind.i64.wrap (c + s) = c + s := i64_id (by omega) (by omega)
    have ih := meetC_iff hb (hi := hi) h1 h2 k (c + s) (by omega) (by omega)
    have hs : speaksR b c = speaksF b c := by rw [Bool.eq_iff_iff, speaksR_iff hb, speaksF_iff hb]
    rw [meetC, clashC, hw, ih, hs]
    by_cases hc : c ≤ hi
    · rw [if_pos hc, if_neg (by omega)]
    · rw [if_neg hc, if_pos (by omega)]

theorem mx_eq (x y : Int) : (if x < y then y else x) = max x y := by split <;> omega
theorem mn_eq (x y : Int) : (if y < x then y else x) = min x y := by split <;> omega
theorem clashF_iff {a b : Rec} (ha : a.span) (hb : b.span) (hf : famK a.kind = famK b.kind) : clashF a b = true ↔ Meets a b := by
  have ha' := ha
  have hb' := hb
  obtain ⟨_, a15, a1, a2, a3, a4, a5⟩ := ha'
  obtain ⟨_, b15, b1, b2, b3, b4, b5⟩ := hb'
  have hs : stepR a = st a := by
    unfold stepR st at *
    split
    · rename_i hk; rw [if_pos hk] at a4; rw [if_neg (by omega)]
    · rfl
  unfold clashF
  rw [if_neg (by simpa using hf), if_neg a15, mn_eq, hs]
  have hc : ∃ q, clashS a b = a.lo + q * st a ∧ max a.lo b.lo ≤ a.lo + q * st a ∧ a.lo + q * st a < max a.lo b.lo + st a := by
    unfold clashS
    rw [mx_eq, hs]
    by_cases h : a.lo < max a.lo b.lo
    · rw [if_pos h]; exact first_spec a1 (by omega) (by omega) a4 a5
    · rw [if_neg h]; exact ⟨0, by omega, by omega, by omega⟩
  obtain ⟨q, e, h1, h2⟩ := hc
  rw [clashC_iff hb a4 a5 64 _ (by omega) (by omega), e]
  exact (meets_iff ha hb q rfl h1 h2).symm
theorem meetO_iff {a b : Rec} (ha : a.span) (hb : b.span) (h4 : a.kind = 4 ∨ b.kind ≠ 4) : meetO a b = true ↔ Meets a b := by
  have ha' := ha
  have hb' := hb
  obtain ⟨_, a15, a1, a2, a3, a4, a5⟩ := ha'
  obtain ⟨_, b15, b1, b2, b3, b4, b5⟩ := hb'
  unfold meetO
  rw [mn_eq, mx_eq]
  by_cases hk : a.kind = 4
  · by_cases hlt : min a.hi b.hi < max a.lo b.lo
    · rw [if_pos (.inr hlt)]
      simp only [decide_eq_true_eq]
      constructor
      · intro h; omega
      · rintro ⟨c, ⟨x, y, _⟩, z, w, _⟩; omega
    · rw [if_neg (fun h => h.elim (fun h => h hk) hlt)]
      have hs : a.n = st a := by unfold st; rw [if_pos hk]
      have hc : ∃ q, meetS a b = a.lo + q * st a ∧ max a.lo b.lo ≤ a.lo + q * st a ∧ a.lo + q * st a < max a.lo b.lo + st a := by
        unfold meetS
        rw [mx_eq, hs]
        exact first_spec a1 (by omega) (by omega) a4 a5
      obtain ⟨q, e, h1, h2⟩ := hc
      rw [hs, meetC_iff hb a4 a5 64 _ (by omega) (by omega), clashC_iff hb a4 a5 64 _ (by omega) (by omega), e]
      exact (meets_iff ha hb q rfl h1 h2).symm
  · have hkb := h4.resolve_left hk
    rw [if_pos (.inl hk)]
    have sa : st a = 1 := by unfold st; rw [if_neg hk]
    have sb : st b = 1 := by unfold st; rw [if_neg hkb]
    simp only [decide_eq_true_eq]
    constructor
    · intro h
      exact ⟨max a.lo b.lo, ⟨by omega, by omega, by rw [sa]; exact Int.one_dvd _⟩, by omega, by omega, by rw [sb]; exact Int.one_dvd _⟩
    · rintro ⟨c, ⟨x, y, _⟩, z, w, _⟩; omega
theorem meetR_iff {a b : Rec} (ha : a.span) (hb : b.span) : meetR a b = true ↔ Meets a b := by
  unfold meetR
  by_cases hk : a.kind = 4
  · rw [if_pos hk]; exact meetO_iff ha hb (.inl hk)
  · rw [if_neg hk, meetO_iff hb ha (.inr hk)]; exact ⟨Meets.symm, Meets.symm⟩
end Go.Proofs.Ytcpdnpaedkcebaa.V
