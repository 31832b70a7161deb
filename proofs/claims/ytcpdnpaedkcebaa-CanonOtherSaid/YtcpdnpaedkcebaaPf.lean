/- Plain law: in a right table nothing opens in a full decomposition, and its classes do not fall. -/
import Derived.Test.YtcpdnpaedkcebaaPe
namespace Go.Proofs.Ytcpdnpaedkcebaa.V
open Go Go.RowKit
set_option linter.unusedVariables false
set_option linter.unusedSimpArgs false
theorem hit_spec {l : List Rec} {f c : Int} {r : Rec} (h : hit l f c = some r) : r ∈ l ∧ famK r.kind = f ∧ speaksR r c = true := by
  unfold hit at h
  split at h
  · cases h
  · have := List.find?_some h
    simp only [Bool.and_eq_true, decide_eq_true_eq] at this
    exact ⟨List.mem_of_find?_eq_some h, this⟩
theorem hit_none {l : List Rec} {f c : Int} (h : ∀ r ∈ l, famK r.kind = f → speaksR r c = true → False) : hit l f c = none := by
  cases hh : hit l f c with
  | none => rfl
  | some r => have := hit_spec hh; exact (h r this.1 this.2.1 this.2.2).elim
theorem speaks_in {r : Rec} {c : Int} (h : speaksR r c = true) : r.lo ≤ c ∧ c ≤ r.hi ∧ 0 ≤ c ∧ c ≤ 1114111 := by
  unfold speaksR at h
  split at h
  · cases h
  · omega
theorem wrong_zero {l : List Rec} {r : Rec} (h : wrongP l r = 0) (hf : famK r.kind = 2 ∨ famK r.kind = 3) :
    128 ≤ r.lo ∧ hangulF r = false ∧ (famK r.kind = 3 → ∃ x, fullL l (IntKind.i32.wrap r.lo) = .ok x ∧ fallsL l x = false ∧ (r.kind = 7 → pairsL l r = true)) := by
  unfold wrongP at h
  rw [if_neg (by omega)] at h
  by_cases h1 : r.lo < 128
  · rw [if_pos h1] at h; omega
  rw [if_neg h1] at h
  by_cases h2 : hangulF r = true
  · rw [if_pos h2] at h; omega
  rw [if_neg h2] at h
  refine ⟨by omega, by simpa using h2, fun h3 => ?_⟩
  rw [if_neg (by omega)] at h
  cases hx : fullL l (IntKind.i32.wrap r.lo) with
  | error e => rw [hx] at h; exact absurd h (walkN_ne l 16 _ _ _ e hx)
  | ok x =>
    rw [hx] at h
    simp only at h
    by_cases h4 : fallsL l x = true
    · rw [if_pos h4] at h; omega
    rw [if_neg h4] at h
    refine ⟨x, rfl, by simpa using h4, fun hk => ?_⟩
    cases hp : pairsL l r with
    | true => rfl
    | false => rw [if_pos ⟨hk, hp⟩] at h; omega
theorem wrongs_none {l : List Rec} : ∀ {s : List Rec} {seen : List (Int × Int)} {i : Int}, (∀ r ∈ s, r.right) → wrongsP l seen s i = none → ∀ r ∈ s, wrongP l r = 0
  | r :: s, seen, i, hr, h, x, hx => by
    rw [wrongsP] at h
    by_cases hw : wrongP l r ≠ 0
    · rw [if_pos hw] at h; cases h
    rw [if_neg hw] at h
    have hs : ∀ y ∈ s, y.right := fun y hy => hr y (List.mem_cons_of_mem _ hy)
    rcases List.mem_cons.1 hx with rfl | hx
    · exact Decidable.of_not_not hw
    by_cases hk : r.kind = 7
    · obtain ⟨a, b, hto⟩ := right_pair (hr r (List.mem_cons_self ..)) hk
      rw [if_pos hk, hto] at h
      simp only at h
      split at h
      · cases h
      · exact wrongs_none hs h x hx
    · rw [if_neg hk] at h
      exact wrongs_none hs h x hx
/-- A table that Check takes. -/
structure Good (l : List Rec) : Prop where
  ok : ∀ r ∈ l, r.ok
  chk : (checkP l).2 = 0
  right : ∀ r ∈ l, r.right
  zero : ∀ r ∈ l, wrongP l r = 0
theorem good_of {l : List Rec} (h : ∀ r ∈ l, r.ok) (hc : (canonP l).2 = 0) : Good l := by
  unfold canonP at hc
  by_cases h2 : (checkP l).2 ≠ 0
  · rw [if_pos h2] at hc; exact absurd hc h2
  rw [if_neg h2] at hc
  have hr := check_right h (Decidable.of_not_not h2)
  cases hw : wrongsP l [] l 0 with
  | none => exact ⟨h, Decidable.of_not_not h2, hr, wrongs_none hr hw⟩
  | some x =>
    exfalso
    rw [hw] at hc
    simp only at hc
    have : ∀ (s : List Rec) (seen : List (Int × Int)) (i : Int) (x : Int × Int), wrongsP l seen s i = some x → x.2 ≠ 0 := by
      intro s
      induction s with
      | nil => intro seen i x h; simp [wrongsP] at h
      | cons r s ih =>
        intro seen i x h
        rw [wrongsP] at h
        split at h
        · rename_i h2; cases h; exact h2
        · split at h
          · split at h
            · split at h
              · cases h; simp
              · exact ih _ _ _ h
            · cases h
          · exact ih _ _ _ h
    exact this l [] 0 x hw hc
/-- A jamo. -/
def jamo (c : Int) : Prop := 4352 ≤ c ∧ c ≤ 4370 ∨ 4449 ≤ c ∧ c ≤ 4469 ∨ 4520 ≤ c ∧ c ≤ 4546
theorem no_hangul {r : Rec} {c : Int} (h : hangulF r = false) (h1 : r.lo ≤ c) (h2 : c ≤ r.hi) : ¬jamo c := by
  unfold hangulF coversR at h
  simp only [Bool.or_eq_false_iff, Bool.and_eq_false_iff, decide_eq_false_iff_not] at h
  unfold jamo
  omega
theorem Good.jamo {l : List Rec} (h : Good l) {c : Int} (hc : jamo c) {f : Int} (hf : f = 2 ∨ f = 3) : hit l f c = none :=
  hit_none fun r hr hk hs => by
    have := speaks_in hs
    exact no_hangul (wrong_zero (h.zero r hr) (by omega)).2.1 this.1 this.2.1 hc
theorem Good.jclass {l : List Rec} (h : Good l) {c : Int} (hc : V.jamo c) : classL l c = 0 := by
  unfold classL
  rw [h.jamo hc (.inl rfl)]
theorem Good.jopen {l : List Rec} (h : Good l) {c : Int} (hc : V.jamo c) : openL l c = [] := by
  unfold openL
  have : ¬syl c = true := by
    unfold syl; unfold V.jamo at hc
    simp only [Bool.and_eq_true, decide_eq_true_eq]
    omega
  rw [if_neg this, h.jamo hc (.inr rfl)]
theorem syl_iff (c : Int) : syl c = true ↔ 44032 ≤ c ∧ c ≤ 55203 := by unfold syl; simp
theorem part_spec {c : Int} (hc : syl c = true) :
    ((c - 44032) % 28 = 0 ∧ V.jamo (partA c) ∧ V.jamo (partB c)) ∨ ((c - 44032) % 28 ≠ 0 ∧ syl (partA c) = true ∧ (partA c - 44032) % 28 = 0 ∧ partA c ≠ c ∧ V.jamo (partB c)) := by
  rw [syl_iff] at hc
  have e1 : IntKind.i32.wrap (c - 44032) = c - 44032 := by rw [wrap_i32]; omega
  have e2 : (c - 44032).tmod 28 = (c - 44032) % 28 := Int.tmod_eq_emod_of_nonneg (by omega)
  have e3 : (c - 44032).tdiv 28 = (c - 44032) / 28 := Int.tdiv_eq_ediv_of_nonneg (by omega)
  unfold partA partB
  rw [e1, e2, e3]
  have e4 : IntKind.i32.wrap ((c - 44032) / 28) = (c - 44032) / 28 := by rw [wrap_i32]; omega
  have e5 : ((c - 44032) / 28).tmod 21 = (c - 44032) / 28 % 21 := Int.tmod_eq_emod_of_nonneg (by omega)
  have e6 : ((c - 44032) / 28).tdiv 21 = (c - 44032) / 28 / 21 := Int.tdiv_eq_ediv_of_nonneg (by omega)
  rw [e4, e5, e6]
  have e7 : ∀ t : Int, 0 ≤ t → t < 28 → IntKind.i32.wrap (c - t) = c - t := fun t h1 h2 => by rw [wrap_i32]; omega
  have e8 : 0 ≤ (c - 44032) % 28 ∧ (c - 44032) % 28 < 28 := by omega
  by_cases h : 0 < (c - 44032) % 28
  · rw [if_pos h, if_pos h, syl_iff, e7 _ e8.1 e8.2]
    clear e2 e3 e4 e5 e6 e7
    refine .inr ⟨by omega, ⟨by omega, by omega⟩, by omega, by omega, ?_⟩
    simp only [wrap_i32, V.jamo]
    omega
  · rw [if_neg h, if_neg h]
    refine .inl ⟨by omega, ?_, ?_⟩ <;> simp only [wrap_i32, V.jamo] <;> omega
theorem walk_leaf {l : List Rec} {n : Nat} {c : Int} {way out : List Int} (h : openL l c = []) (ho : out.length < 32) : walkN l n c way out = .ok (out ++ [c]) := by
  rw [walkN_unfold, if_pos h, if_neg (by omega)]
theorem walk_two {l : List Rec} {n : Nat} {c a b : Int} {way out y z : List Int} (h : openL l c = [a, b]) (hc : c ∉ way) (h1 : walkN l n a (way ++ [c]) out = .ok y) (h2 : walkN l n b (way ++ [c]) y = .ok z) : walkN l (n + 1) c way out = .ok z := by
  rw [walkN_unfold, if_neg (by rw [h]; simp), if_neg hc, h]
  simp only [List.foldlM_cons, List.foldlM_nil, h1]
  show (walkN l n b (way ++ [c]) y >>= fun s => pure s) = _
  rw [h2]
  rfl
theorem Good.syl {l : List Rec} (h : Good l) {c : Int} (hc : V.syl c = true) : ∃ x, fullL l c = .ok x ∧ ∀ t ∈ x, V.jamo t := by
  have ho : openL l c = [partA c, partB c] := by unfold openL; rw [if_pos hc]
  unfold fullL
  rcases part_spec hc with ⟨_, ha, hb⟩ | ⟨_, ha, hm, hne, hb⟩
  · refine ⟨[partA c, partB c], walk_two ho (by simp) (walk_leaf (h.jopen ha) (by simp)) (walk_leaf (h.jopen hb) (by simp)), ?_⟩
    intro t ht
    simp only [List.mem_cons, List.not_mem_nil, or_false] at ht
    rcases ht with rfl | rfl
    · exact ha
    · exact hb
  · have ho2 : openL l (partA c) = [partA (partA c), partB (partA c)] := by unfold openL; rw [if_pos ha]
    rcases part_spec ha with ⟨_, ha2, hb2⟩ | ⟨hx, _⟩
    · refine ⟨[partA (partA c), partB (partA c), partB c], walk_two ho (by simp) (walk_two ho2 (by simpa using hne) (walk_leaf (h.jopen ha2) (by simp)) (walk_leaf (h.jopen hb2) (by simp))) (walk_leaf (h.jopen hb) (by simp)), ?_⟩
      intro t ht
      simp only [List.mem_cons, List.not_mem_nil, or_false] at ht
      rcases ht with rfl | rfl | rfl
      · exact ha2
      · exact hb2
      · exact hb
    · exact absurd hm hx
theorem falls_zero {l : List Rec} : ∀ {x : List Int}, (∀ t ∈ x, classL l t = 0) → fallsL l x = false
  | [], _ => rfl
  | [_], _ => rfl
  | a :: b :: x, h => by
    rw [fallsL, h b (by simp), falls_zero fun t ht => h t (List.mem_cons_of_mem _ ht)]
    rfl
theorem foldlM_leaf {f : List Int → Int → Except Int (List Int)} {Z : Int → Prop} (hf : ∀ o t x, (∀ c ∈ o, Z c) → f o t = .ok x → (∀ c ∈ x, Z c) ∧ o.length < x.length) :
    ∀ (ts : List Int) (o x : List Int), (∀ c ∈ o, Z c) → ts.foldlM f o = .ok x → (∀ c ∈ x, Z c) ∧ o.length + ts.length ≤ x.length
  | [], o, x, ho, h => by cases h; exact ⟨ho, Nat.le_refl _⟩
  | t :: ts, o, x, ho, h => by
    rw [List.foldlM_cons] at h
    cases hx : f o t with
    | error e => rw [hx] at h; cases h
    | ok y =>
      rw [hx] at h
      have h1 := hf _ _ _ ho hx
      have h2 := foldlM_leaf hf ts y x h1.1 h
      refine ⟨h2.1, ?_⟩
      have := h2.2
      simp only [List.length_cons]
      omega
theorem walk_leaves (l : List Rec) : ∀ (n : Nat) (c : Int) (way out x : List Int), (∀ t ∈ out, openL l t = []) → walkN l n c way out = .ok x → (∀ t ∈ x, openL l t = []) ∧ out.length < x.length := by
  intro n
  induction n with
  | zero =>
    intro c way out x ho h
    rw [walkN_unfold] at h
    split at h
    · split at h
      · cases h
      · rename_i hc _
        cases h
        refine ⟨fun t ht => ?_, by simp⟩
        rcases List.mem_append.1 ht with ht | ht
        · exact ho t ht
        · rw [List.mem_singleton.1 ht]; exact hc
    · split at h <;> cases h
  | succ n ih =>
    intro c way out x ho h
    rw [walkN_unfold] at h
    split at h
    · split at h
      · cases h
      · rename_i hc _
        cases h
        refine ⟨fun t ht => ?_, by simp⟩
        rcases List.mem_append.1 ht with ht | ht
        · exact ho t ht
        · rw [List.mem_singleton.1 ht]; exact hc
    · rename_i hc
      split at h
      · cases h
      · have := foldlM_leaf (Z := fun t => openL l t = []) (fun o t x ho h => ih t _ o x ho h) _ _ _ ho h
        refine ⟨this.1, ?_⟩
        have h2 := this.2
        have : 0 < (openL l c).length := by
          cases hh : openL l c with
          | nil => exact absurd hh hc
          | cons => simp
        omega
/-- What CanonLeaves says. -/
def Leaves (l : List Rec) : Prop := ∀ c, i32ok c → ∃ x, fullL l c = .ok x ∧ x ≠ [] ∧ x.length ≤ 32 ∧ (∀ t ∈ x, i32ok t) ∧ (∀ t ∈ x, openL l t = []) ∧ fallsL l x = false
theorem right_one {r : Rec} (h : r.right) (hf : famK r.kind = 3) : r.lo = r.hi ∧ 0 ≤ r.lo ∧ r.lo ≤ 1114111 := by
  have hk : r.kind = 7 ∨ r.kind = 8 := by unfold famK at hf; (repeat' split at hf) <;> omega
  have h1 := (right_parts h).2.2.1 (by omega)
  have h2 := (right_parts h).2.2.2
  have : oneR r = true := by
    unfold fitsR at h2
    rcases hk with hk | hk <;> simp only [hk] at h2 <;> simp at h2 <;> simp [h2]
  unfold oneR at this
  simp only [Bool.and_eq_true, decide_eq_true_eq] at this
  omega
theorem Good.leaves {l : List Rec} (h : Good l) : Leaves l := by
  intro c hc
  have fin : ∀ x, fullL l c = .ok x → fallsL l x = false → ∃ x, fullL l c = .ok x ∧ x ≠ [] ∧ x.length ≤ 32 ∧ (∀ t ∈ x, i32ok t) ∧ (∀ t ∈ x, openL l t = []) ∧ fallsL l x = false := by
    intro x hx hf
    have h1 := walk_leaves l 16 c [] [] x (by simp) hx
    refine ⟨x, hx, fun e => ?_, walkN_len l 16 _ _ _ x (by simp) hx, walkN_ok h.ok 16 _ _ _ x hc (by simp) hx, h1.1, hf⟩
    rw [e] at h1
    exact absurd h1.2 (by simp)
  by_cases ho : openL l c = []
  · exact fin [c] (walk_leaf ho (by simp)) rfl
  by_cases hs : V.syl c = true
  · obtain ⟨x, hx, hj⟩ := h.syl hs
    exact fin x hx (falls_zero fun t ht => h.jclass (hj t ht))
  unfold openL at ho
  rw [if_neg hs] at ho
  cases hh : hit l 3 c with
  | none => rw [hh] at ho; exact absurd rfl ho
  | some r =>
    obtain ⟨hm, hk, hsp⟩ := hit_spec hh
    have h1 := speaks_in hsp
    have h2 := right_one (h.right r hm) hk
    obtain ⟨_, _, h3⟩ := wrong_zero (h.zero r hm) (.inr hk)
    obtain ⟨x, hx, hf, _⟩ := h3 hk
    have e : IntKind.i32.wrap r.lo = c := by rw [wrap_i32]; omega
    rw [e] at hx
    exact fin x hx hf
theorem falls_at {l : List Rec} : ∀ {x : List Int}, fallsL l x = false → ∀ k, k + 1 < x.length → classL l (x.getD (k + 1) 0) ≠ 0 → ¬classL l (x.getD (k + 1) 0) < classL l (x.getD k 0)
  | a :: b :: x, h, k, hk, hc, hlt => by
    rw [fallsL] at h
    simp only [Bool.or_eq_false_iff, Bool.and_eq_false_iff, Bool.not_eq_false', decide_eq_true_eq, decide_eq_false_iff_not] at h
    match k with
    | 0 =>
      simp at hc hlt
      rcases h.1 with h1 | h1
      · exact hc h1
      · omega
    | k + 1 =>
      exact falls_at (x := b :: x) h.2 k (by simp at hk ⊢; omega) (by simpa using hc) (by simpa using hlt)
end Go.Proofs.Ytcpdnpaedkcebaa.V
