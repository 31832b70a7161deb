/- Plain law: the program and the document find the same wrong with a table. -/
import Derived.Test.YtcpdnpaedkcebaaPd
import Derived.Test.YtcpdnpaedkcebaaXm
import Derived.Test.YtcpdnpaedkcebaaXi
import Derived.Test.YtcpdnpaedkcebaaXf
namespace Go.Proofs.Ytcpdnpaedkcebaa.V
open Go Go.RowKit
set_option linter.unusedVariables false
set_option linter.unusedSimpArgs false
/-- A record that is right. -/
def Rec.right (r : Rec) : Prop := r.ok ∧ rightR r = 0
theorem right_parts {r : Rec} (h : r.right) : famK r.kind ≠ 0 ∧ (r.kind = 15 → r.lo = 0 ∧ r.hi = 0) ∧ (r.kind ≠ 15 → 0 ≤ r.lo ∧ r.lo ≤ r.hi ∧ r.hi ≤ 1114111) ∧ fitsR r = true := by
  obtain ⟨hok, hr⟩ := h
  unfold rightR at hr
  by_cases hf : famK r.kind = 0
  · rw [if_pos hf] at hr; omega
  rw [if_neg hf] at hr
  by_cases hc : (if r.kind = 15 then r.lo = 0 ∧ r.hi = 0 else 0 ≤ r.lo ∧ r.lo ≤ r.hi ∧ r.hi ≤ 1114111) ∧ fitsR r = true
  · obtain ⟨h1, h2⟩ := hc
    refine ⟨hf, fun hk => ?_, fun hk => ?_, h2⟩
    · rw [if_pos hk] at h1; exact h1
    · rw [if_neg hk] at h1; exact h1
  · rw [if_neg hc] at hr; omega
theorem right_shift {r : Rec} (h : r.right) (hk : r.kind = 4) : 1 ≤ r.n ∧ r.n ≤ 64 := by
  have hf := (right_parts h).2.2.2
  unfold fitsR at hf
  simp only [hk] at hf
  simp only [Bool.and_eq_true, show ¬((4 : Int) = 3) by decide, if_false, if_true] at hf
  have h2 := hf.2
  unfold shiftsR at h2
  split at h2
  · simp only [Bool.and_eq_true, decide_eq_true_eq] at h2
    exact ⟨h2.1.1.1.1, h2.1.1.1.2⟩
  · cases h2
theorem right_span {r : Rec} (h : r.right) (hk : r.kind ≠ 15) : r.span := by
  obtain ⟨h1, h2, h3⟩ := (right_parts h).2.2.1 hk
  refine ⟨h.1, hk, h1, h2, h3, ?_, ?_⟩
  · unfold st
    split
    · rename_i h4; exact (right_shift h h4).1
    · omega
  · unfold st
    split
    · rename_i h4; exact (right_shift h h4).2
    · omega
theorem fam_ten {k : Int} : famK k = 10 ↔ k = 15 := by unfold famK; (repeat' split) <;> omega
theorem fam_le (k : Int) : famK k ≤ 10 := by unfold famK; (repeat' split) <;> omega
theorem clash_eq {o r : Rec} (ho : o.right) (hr : r.right) : (decide (famK o.kind = famK r.kind) && clashP (famK r.kind) o r) = clashF o r := by
  by_cases hf : famK o.kind = famK r.kind
  · by_cases hk : r.kind = 15
    · have hok : o.kind = 15 := fam_ten.1 (by rw [hf]; exact fam_ten.2 hk)
      unfold clashP clashF
      rw [hk, hok]
      simp [famK]
    · have hok : o.kind ≠ 15 := fun h => hk (fam_ten.1 (by rw [← hf]; exact fam_ten.2 h))
      have hlt : famK r.kind < 10 := by
        have h1 := fam_le r.kind
        have h2 := mt fam_ten.1 hk
        omega
      have h1 : clashP (famK r.kind) o r = meetR o r := by
        unfold clashP
        rw [decide_eq_true hlt, decide_eq_false (by omega)]
        simp
      rw [h1, decide_eq_true hf, Bool.true_and, Bool.eq_iff_iff, meetR_iff (right_span ho hok) (right_span hr hk), clashF_iff (right_span ho hok) (right_span hr hk) hf]
  · unfold clashF
    rw [decide_eq_false hf, if_pos hf]
    rfl
/-- What a float's bits may be. -/
def Rec.wok (r : Rec) : Prop := r.weight < 18446744073709551616
theorem rights_eq : ∀ (l : List Rec) (i : Int), (∀ r ∈ l, r.ok) → (∀ r ∈ l, r.wok) → rightsP l i = rightsF l i
  | [], _, _, _ => rfl
  | r :: l, i, h, hw => by
    rw [rightsP, rightsF, right_eq (h r (List.mem_cons_self ..)) (hw r (List.mem_cons_self ..)), rights_eq l (i + 1) (fun x hx => h x (List.mem_cons_of_mem _ hx)) (fun x hx => hw x (List.mem_cons_of_mem _ hx))]
theorem rights_none : ∀ {l : List Rec} {i : Int}, (∀ r ∈ l, r.ok) → rightsP l i = none → ∀ r ∈ l, r.right
  | r :: l, i, h, hn, x, hx => by
    rw [rightsP] at hn
    by_cases hr : rightR r ≠ 0
    · rw [if_pos hr] at hn; cases hn
    · rw [if_neg hr] at hn
      rcases List.mem_cons.1 hx with rfl | hx
      · exact ⟨h x (List.mem_cons_self ..), Decidable.of_not_not hr⟩
      · exact rights_none (fun y hy => h y (List.mem_cons_of_mem _ hy)) hn x hx
theorem any_fam {p : List Rec} {r : Rec} (hp : ∀ o ∈ p, o.right) (hr : r.right) : (fam p (famK r.kind)).any (fun o => clashP (famK r.kind) o r) = p.any (fun o => clashF o r) := by
  unfold fam
  rw [List.any_filter, Bool.eq_iff_iff]
  simp only [List.any_eq_true]
  constructor
  · rintro ⟨o, ho, h⟩; exact ⟨o, ho, (clash_eq (hp o ho) hr) ▸ h⟩
  · rintro ⟨o, ho, h⟩; exact ⟨o, ho, (clash_eq (hp o ho) hr).symm ▸ h⟩
theorem twice_eq (l : List Rec) : ∀ (s p : List Rec) (i : Int), (∀ o ∈ p, o.right) → (∀ o ∈ s, o.right) → twiceP p s i = twiceF l p s i
  | [], _, _, _, _ => rfl
  | r :: s, p, i, hp, hs => by
    have hr := hs r (List.mem_cons_self ..)
    have hs' : ∀ o ∈ s, o.right := fun x hx => hs x (List.mem_cons_of_mem _ hx)
    have hp' : ∀ o ∈ p ++ [r], o.right := fun x hx => by
      rcases List.mem_append.1 hx with h | h
      · exact hp x h
      · rw [List.mem_singleton.1 h]; exact hr
    rw [twiceP, twiceF, any_fam hp hr, twice_eq l s (p ++ [r]) (i + 1) hp' hs']
theorem check_eq {l : List Rec} (h : ∀ r ∈ l, r.ok) (hw : ∀ r ∈ l, r.wok) : checkP l = checkF l := by
  unfold checkP checkF
  rw [← rights_eq l 0 h hw]
  split
  · rfl
  cases hr : rightsP l 0 with
  | some x => rfl
  | none =>
    rw [twice_eq l l [] 0 (by simp) (rights_none h hr)]
    rfl
theorem check_right {l : List Rec} (h : ∀ r ∈ l, r.ok) (hc : (checkP l).2 = 0) : ∀ r ∈ l, r.right := by
  unfold checkP at hc
  split at hc
  · simp at hc
  · cases hr : rightsP l 0 with
    | none => exact rights_none h hr
    | some x =>
      exfalso
      rw [hr] at hc
      simp only at hc
      have : ∀ (l : List Rec) (i : Int) (x : Int × Int), rightsP l i = some x → x.2 ≠ 0 := by
        intro l
        induction l with
        | nil => intro i x h; simp [rightsP] at h
        | cons r l ih =>
          intro i x h
          rw [rightsP] at h
          split at h
          · rename_i h2; cases h; exact h2
          · exact ih _ _ h
      exact this l 0 x hr hc
theorem right_pair {r : Rec} (h : r.right) (hk : r.kind = 7) : ∃ a b, r.to = [a, b] := by
  have hf := (right_parts h).2.2.2
  unfold fitsR at hf
  simp only [hk] at hf
  simp only [show ¬((7 : Int) = 3) by decide, show ¬((7 : Int) = 4) by decide, show ¬((7 : Int) = 5) by decide, show ¬((7 : Int) = 6) by decide, if_false, if_true, Bool.and_eq_true] at hf
  have h2 := hf.2
  unfold soundR at h2
  simp only [Bool.and_eq_true, decide_eq_true_eq] at h2
  match hto : r.to with
  | [] => rw [hto] at h2; simp at h2
  | [a] => rw [hto] at h2; simp at h2
  | [a, b] => exact ⟨a, b, rfl⟩
  | a :: b :: c :: t => rw [hto] at h2; simp at h2; omega
theorem record_eq {l p : List Rec} {r : Rec} (h : r.right) :
    recordF l p r = if wrongP l r ≠ 0 then wrongP l r else if r.kind = 7 ∧ p.any (fun o => decide (o.kind = 7) && decide (o.to = r.to)) = true then 74 else 0 := by
  unfold recordF wrongP
  by_cases hf : ¬famK r.kind = 2 ∧ ¬famK r.kind = 3
  · have hk : r.kind ≠ 7 := fun hk => hf.2 (by rw [hk]; rfl)
    rw [if_pos hf, if_pos hf, if_neg (by simp), if_neg (fun h => hk h.1)]
  rw [if_neg hf, if_neg hf]
  have h15 : r.kind ≠ 15 := fun hk => hf (by rw [hk]; decide)
  obtain ⟨s1, s2, s3⟩ := (right_parts h).2.2.1 h15
  have hc : coversR r 0 127 = true ↔ r.lo < 128 := by
    unfold coversR
    simp only [Bool.and_eq_true, decide_eq_true_eq]
    omega
  by_cases h1 : r.lo < 128
  · rw [if_pos (hc.2 h1), if_pos h1]; simp
  rw [if_neg (mt hc.1 h1), if_neg h1]
  by_cases h2 : hangulF r = true
  · rw [if_pos h2, if_pos h2]; simp
  rw [if_neg h2, if_neg h2]
  by_cases h3 : famK r.kind = 2
  · have hk : r.kind ≠ 7 := fun hk => by rw [hk] at h3; revert h3; decide
    rw [if_pos h3, if_pos h3, if_neg (by simp), if_neg (fun h => hk h.1)]
  rw [if_neg h3, if_neg h3]
  cases hx : fullL l (IntKind.i32.wrap r.lo) with
  | error e =>
    simp only
    by_cases he : e = 0
    · exact absurd he (walkN_ne l 16 _ _ _ e hx)
    · rw [if_pos he]
  | ok x =>
    simp only
    by_cases h4 : fallsL l x = true
    · rw [if_pos h4, if_pos h4]; simp
    rw [if_neg h4, if_neg h4]
    by_cases hk : r.kind = 7
    · cases hp : pairsL l r <;> cases ha : p.any (fun o => decide (o.kind = 7) && decide (o.to = r.to)) <;> simp [hk]
    · simp [hk]
theorem wrongs_eq {l : List Rec} : ∀ (s p : List Rec) (seen : List (Int × Int)) (i : Int), (∀ r ∈ p, r.right) → (∀ r ∈ s, r.right) → (∀ a b, (a, b) ∈ seen ↔ ∃ o ∈ p, o.kind = 7 ∧ o.to = [a, b]) → wrongsP l seen s i = recordsF l p s i
  | [], _, _, _, _, _, _ => rfl
  | r :: s, p, seen, i, hp, hs, hin => by
    have hr := hs r (List.mem_cons_self ..)
    have hs' : ∀ o ∈ s, o.right := fun x hx => hs x (List.mem_cons_of_mem _ hx)
    have hp' : ∀ o ∈ p ++ [r], o.right := fun x hx => by
      rcases List.mem_append.1 hx with h | h
      · exact hp x h
      · rw [List.mem_singleton.1 h]; exact hr
    rw [wrongsP, recordsF, record_eq hr]
    by_cases hw : wrongP l r ≠ 0
    · simp only [if_pos hw]
    · simp only [if_neg hw]
      by_cases hk : r.kind = 7
      · obtain ⟨a, b, hto⟩ := right_pair hr hk
        have hany : p.any (fun o => decide (o.kind = 7) && decide (o.to = r.to)) = true ↔ (a, b) ∈ seen := by
          rw [hin, List.any_eq_true, hto]
          simp only [Bool.and_eq_true, decide_eq_true_eq]
        rw [hto] at hany ⊢
        simp only [hk, true_and, if_true, if_pos (True.intro)]
        by_cases ha : (a, b) ∈ seen
        · rw [if_pos ha, if_pos (hany.2 ha)]; simp
        · rw [if_neg ha, if_neg (mt hany.1 ha), if_neg (by simp)]
          refine wrongs_eq s (p ++ [r]) _ _ hp' hs' fun x y => ?_
          rw [List.mem_cons, hin]
          constructor
          · rintro (h | ⟨o, ho, h⟩)
            · cases h; exact ⟨r, List.mem_append.2 (.inr (List.mem_singleton.2 rfl)), hk, hto⟩
            · exact ⟨o, List.mem_append.2 (.inl ho), h⟩
          · rintro ⟨o, ho, h1, h2⟩
            rcases List.mem_append.1 ho with ho | ho
            · exact .inr ⟨o, ho, h1, h2⟩
            · rw [List.mem_singleton.1 ho, hto] at h2; cases h2; exact .inl rfl
      · simp only [hk, false_and, if_false]
        rw [if_neg (by simp)]
        refine wrongs_eq s (p ++ [r]) seen _ hp' hs' fun x y => ?_
        rw [hin]
        constructor
        · rintro ⟨o, ho, h⟩; exact ⟨o, List.mem_append.2 (.inl ho), h⟩
        · rintro ⟨o, ho, h1, h2⟩
          rcases List.mem_append.1 ho with ho | ho
          · exact ⟨o, ho, h1, h2⟩
          · rw [List.mem_singleton.1 ho] at h1; exact absurd h1 hk
def askedL : List Int := ((List.range' 45 78).map fun (c : Nat) => (c : Int)).filter asked
def bytesI (s : List UInt8) : List Int := s.map fun b => (b.toNat : Int)
theorem plain_all (l : List Rec) (s : List UInt8) : plainsP l s = true ↔ ∀ c ∈ bytesI s, plainL l c = true := by
  unfold plainsP bytesI
  rw [List.all_eq_true]
  constructor
  · intro h c hc
    obtain ⟨b, hb, rfl⟩ := List.mem_map.1 hc
    exact h b hb
  · intro h b hb
    exact h _ (List.mem_map.2 ⟨b, hb, rfl⟩)
theorem bases_all (l : List Rec) : basesF l = true ↔ ∀ c ∈ askedL, plainL l c = true := by
  unfold basesF askedL
  rw [List.all_eq_true]
  constructor
  · intro h c hc
    obtain ⟨h1, h2⟩ := List.mem_filter.1 hc
    obtain ⟨n, hn, rfl⟩ := List.mem_map.1 h1
    have := h n hn
    rw [h2] at this
    simpa using this
  · intro h n hn
    cases ha : asked (n : Int) with
    | false => rfl
    | true =>
      rw [h _ (List.mem_filter.2 ⟨List.mem_map.2 ⟨n, hn, rfl⟩, ha⟩)]
      rfl
theorem sub1 : ∀ c ∈ askedL, c ∈ bytesI abc.data.toList ∨ c ∈ bytesI digits.data.toList := by decide +kernel
theorem sub2 : ∀ c ∈ bytesI abc.data.toList, c ∈ askedL := by decide +kernel
theorem sub3 : ∀ c ∈ bytesI digits.data.toList, c ∈ askedL := by decide +kernel
theorem bases_eq (l : List Rec) : (plainsP l abc.data.toList = true ∧ plainsP l digits.data.toList = true) ↔ basesF l = true := by
  rw [plain_all, plain_all, bases_all]
  constructor
  · rintro ⟨h1, h2⟩ c hc
    exact (sub1 c hc).elim (h1 c) (h2 c)
  · intro h
    exact ⟨fun c hc => h c (sub2 c hc), fun c hc => h c (sub3 c hc)⟩
theorem canon_eq {l : List Rec} (h : ∀ r ∈ l, r.ok) (hw : ∀ r ∈ l, r.wok) : canonP l = canonF l := by
  unfold canonP canonF
  have hc := check_eq h hw
  rw [← hc]
  by_cases h2 : (checkP l).2 ≠ 0
  · rw [if_pos h2, if_pos h2]
  · rw [if_neg h2, if_neg h2]
    have hr := check_right h (Decidable.of_not_not h2)
    rw [wrongs_eq l [] [] 0 (by simp) hr (by simp)]
    cases recordsF l [] l 0 with
    | some x => rfl
    | none =>
      simp only
      by_cases hb : basesF l = true
      · rw [if_pos hb, if_pos ((bases_eq l).2 hb)]
      · rw [if_neg hb, if_neg (mt (bases_eq l).1 hb)]
end Go.Proofs.Ytcpdnpaedkcebaa.V
