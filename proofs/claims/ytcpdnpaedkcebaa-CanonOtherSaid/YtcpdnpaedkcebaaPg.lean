/- Plain law: tables that tell alike; a right table in any order. -/
import Derived.Test.YtcpdnpaedkcebaaPf
namespace Go.Proofs.Ytcpdnpaedkcebaa.V
open Go Go.RowKit
set_option linter.unusedVariables false
set_option linter.unusedSimpArgs false
/-- Two tables that speak alike of statuses, classes, decompositions. -/
def Alike (l m : List Rec) : Prop := ∀ f c, f ≤ 3 → hit l f c = hit m f c
theorem Alike.open {l m : List Rec} (h : Alike l m) (c : Int) : openL l c = openL m c := by unfold openL; rw [h 3 c (by decide)]
theorem Alike.class {l m : List Rec} (h : Alike l m) (c : Int) : classL l c = classL m c := by unfold classL; rw [h 2 c (by decide)]
theorem Alike.prim {l m : List Rec} (h : Alike l m) (c : Int) : primL l c = primL m c := by unfold primL; rw [h 3 c (by decide)]
theorem Alike.plain {l m : List Rec} (h : Alike l m) (c : Int) : plainP l c = plainP m c := by unfold plainP; rw [h 1 c (by decide)]
theorem Alike.walk {l m : List Rec} (h : Alike l m) : ∀ (n : Nat) (c : Int) (way out : List Int), walkN l n c way out = walkN m n c way out := by
  intro n
  induction n with
  | zero => intro c way out; rw [walkN_unfold, walkN_unfold, h.open]
  | succ n ih =>
    intro c way out
    rw [walkN_unfold, walkN_unfold, h.open]
    have : (fun out t => walkN l n t (way ++ [c]) out) = (fun out t => walkN m n t (way ++ [c]) out) := by
      funext o t; exact ih t _ o
    simp only [this]
theorem Alike.full {l m : List Rec} (h : Alike l m) (c : Int) : fullL l c = fullL m c := h.walk 16 c [] []
theorem Alike.falls {l m : List Rec} (h : Alike l m) : ∀ x : List Int, fallsL l x = fallsL m x
  | [] => rfl
  | [_] => rfl
  | a :: b :: x => by rw [fallsL, fallsL, h.class, h.class, h.falls (b :: x)]
theorem Alike.pairs {l m : List Rec} (h : Alike l m) (r : Rec) : pairsL l r = pairsL m r := by
  unfold pairsL
  split
  · rw [h.class, h.class, h.open, h.open, h.prim]
  · rfl
theorem Alike.wrong {l m : List Rec} (h : Alike l m) (r : Rec) : wrongP l r = wrongP m r := by
  unfold wrongP
  rw [h.full]
  simp only [h.pairs, h.falls]
theorem Alike.plains {l m : List Rec} (h : Alike l m) (s : List UInt8) : plainsP l s = plainsP m s := by
  unfold plainsP
  congr 1
  funext b
  exact h.plain _
/-- Not at odds. -/
def Apart (a b : Rec) : Prop := a.right → b.right → clashF a b = false
theorem clash_mix {a b : Rec} (ha : a.kind = 15) (hb : b.kind = 15) : clashF a b = clashF b a := by
  unfold clashF
  rw [ha, hb]
  rw [Bool.eq_iff_iff]
  simp
  constructor <;> (rintro (⟨h1, h2⟩ | ⟨h1, h2⟩) <;> simp [h1, h2])
theorem Apart.symm {a b : Rec} (h : Apart a b) : Apart b a := by
  intro hb ha
  have h1 := h ha hb
  by_cases hf : famK a.kind = famK b.kind
  · by_cases hk : a.kind = 15
    · have hk2 : b.kind = 15 := fam_ten.1 (by rw [← hf]; exact fam_ten.2 hk)
      rw [clash_mix hk2 hk]; exact h1
    · have hk2 : b.kind ≠ 15 := fun h => hk (fam_ten.1 (by rw [hf]; exact fam_ten.2 h))
      cases h2 : clashF b a with
      | false => rfl
      | true =>
        have h3 := (clashF_iff (right_span hb hk2) (right_span ha hk) hf.symm).1 h2
        have h4 := (clashF_iff (right_span ha hk) (right_span hb hk2) hf).2 h3.symm
        rw [h1] at h4; cases h4
  · unfold clashF
    rw [if_pos (fun h => hf h.symm)]
theorem twice_iff (l : List Rec) : ∀ (s p : List Rec) (i : Int), twiceF l p s i = none ↔ (∀ r ∈ s, ∀ o ∈ p, clashF o r = false) ∧ s.Pairwise (fun o r => clashF o r = false)
  | [], p, i => by simp [twiceF]
  | r :: s, p, i => by
    rw [twiceF]
    by_cases h : p.any (fun o => clashF o r) = true
    · rw [if_pos h]
      simp only [reduceCtorEq, false_iff]
      rintro ⟨h1, _⟩
      obtain ⟨o, ho, h2⟩ := List.any_eq_true.1 h
      rw [h1 r (List.mem_cons_self ..) o ho] at h2
      cases h2
    · rw [if_neg h, twice_iff l s (p ++ [r]) (i + 1), List.pairwise_cons]
      have h0 : ∀ o ∈ p, clashF o r = false := fun o ho => by
        cases h2 : clashF o r with
        | false => rfl
        | true => exact absurd (List.any_eq_true.2 ⟨o, ho, h2⟩) h
      constructor
      · rintro ⟨h1, h2⟩
        refine ⟨fun x hx o ho => ?_, fun x hx => h1 x hx r (by simp), h2⟩
        rcases List.mem_cons.1 hx with rfl | hx
        · exact h0 o ho
        · exact h1 x hx o (List.mem_append.2 (.inl ho))
      · rintro ⟨h1, h2, h3⟩
        refine ⟨fun x hx o ho => ?_, h3⟩
        rcases List.mem_append.1 ho with ho | ho
        · exact h1 x (List.mem_cons_of_mem _ hx) o ho
        · rw [List.mem_singleton.1 ho]; exact h2 x hx
theorem rights_all : ∀ {l : List Rec} {i : Int}, (∀ r ∈ l, r.right) → rightsP l i = none
  | [], _, _ => rfl
  | r :: l, i, h => by
    rw [rightsP, if_neg (by rw [(h r (List.mem_cons_self ..)).2]; simp)]
    exact rights_all fun x hx => h x (List.mem_cons_of_mem _ hx)
theorem check_zero {l : List Rec} (h : ∀ r ∈ l, r.ok) : (checkP l).2 = 0 ↔ l.length ≤ 4096 ∧ (∀ r ∈ l, r.right) ∧ l.Pairwise Apart := by
  constructor
  · intro hc
    have hr := check_right h hc
    unfold checkP at hc
    rw [rights_all hr] at hc
    by_cases hn : 4096 < l.length
    · rw [if_pos hn] at hc; simp at hc
    rw [if_neg hn] at hc
    cases ht : twiceP [] l 0 with
    | some i => rw [ht] at hc; simp at hc
    | none =>
      rw [twice_eq l l [] 0 (by simp) hr] at ht
      exact ⟨by omega, hr, ((twice_iff l l [] 0).1 ht).2.imp fun h _ _ => h⟩
  · rintro ⟨h1, h2, h3⟩
    unfold checkP
    rw [rights_all h2, if_neg (by omega), twice_eq l l [] 0 (by simp) h2, (twice_iff l l [] 0).2 ⟨by simp, ?_⟩]
    exact h3.imp_of_mem fun ha hb h => h (h2 _ ha) (h2 _ hb)
theorem find_perm {α : Type} {p : α → Bool} {l m : List α} (h : l.Perm m) (hl : l.Pairwise fun a b => ¬(p a = true ∧ p b = true)) : l.find? p = m.find? p := by
  rw [← List.head?_filter, ← List.head?_filter]
  have hp : (l.filter p).Perm (m.filter p) := h.filter p
  have hn : (l.filter p).length ≤ 1 := by
    have h2 : (l.filter p).Pairwise fun a b => ¬(p a = true ∧ p b = true) := hl.filter p
    match hf : l.filter p with
    | [] => simp
    | [a] => simp
    | a :: b :: t =>
      exfalso
      rw [hf] at h2
      have ha : a ∈ l.filter p := by rw [hf]; simp
      have hb : b ∈ l.filter p := by rw [hf]; simp
      exact (List.pairwise_cons.1 h2).1 b (by simp) ⟨(List.mem_filter.1 ha).2, (List.mem_filter.1 hb).2⟩
  match hf : l.filter p with
  | [] => rw [hf] at hp; rw [List.nil_perm.1 hp]
  | [a] => rw [hf] at hp; rw [List.singleton_perm.1 hp]
  | a :: b :: t => rw [hf] at hn; simp at hn
theorem hit_perm {l m : List Rec} (h : l.Perm m) (hr : ∀ r ∈ l, r.right) (ha : l.Pairwise Apart) (f c : Int) (hf : f ≤ 9) : hit l f c = hit m f c := by
  unfold hit
  split
  · rfl
  · rename_i hf2
    refine find_perm h (ha.imp_of_mem fun {a b} ma mb hab hp => ?_)
    simp only [Bool.and_eq_true, decide_eq_true_eq] at hp
    have ka : a.kind ≠ 15 := fun hk => by have := fam_ten.2 hk; omega
    have kb : b.kind ≠ 15 := fun hk => by have := fam_ten.2 hk; omega
    have sa := right_span (hr a ma) ka
    have sb := right_span (hr b mb) kb
    have := (clashF_iff sa sb (by omega)).2 ⟨c, (speaksR_iff sa c).1 hp.1.2, (speaksR_iff sb c).1 hp.2.2⟩
    rw [hab (hr a ma) (hr b mb)] at this
    cases this
/-- Not the same two. -/
def Unlike (a b : Rec) : Prop := ¬(a.kind = 7 ∧ b.kind = 7 ∧ a.to = b.to)
theorem wrongs_iff {l : List Rec} : ∀ (s p : List Rec) (i : Int), (∀ r ∈ p, r.right) → (∀ r ∈ s, r.right) →
    (recordsF l p s i = none ↔ (∀ r ∈ s, wrongP l r = 0) ∧ (∀ r ∈ s, ∀ o ∈ p, Unlike o r) ∧ s.Pairwise Unlike)
  | [], p, i, _, _ => by simp [recordsF]
  | r :: s, p, i, hp, hs => by
    have hr := hs r (List.mem_cons_self ..)
    have hs' : ∀ o ∈ s, o.right := fun x hx => hs x (List.mem_cons_of_mem _ hx)
    have hp' : ∀ o ∈ p ++ [r], o.right := fun x hx => by
      rcases List.mem_append.1 hx with h | h
      · exact hp x h
      · rw [List.mem_singleton.1 h]; exact hr
    have hrec : recordF l p r = 0 ↔ wrongP l r = 0 ∧ ∀ o ∈ p, Unlike o r := by
      rw [record_eq hr]
      by_cases hw : wrongP l r ≠ 0
      · rw [if_pos hw]; exact ⟨fun h => absurd h hw, fun h => absurd h.1 hw⟩
      · rw [if_neg hw]
        have hw' : wrongP l r = 0 := Decidable.of_not_not hw
        by_cases ha : r.kind = 7 ∧ p.any (fun o => decide (o.kind = 7) && decide (o.to = r.to)) = true
        · rw [if_pos ha]
          obtain ⟨o, ho, h2⟩ := List.any_eq_true.1 ha.2
          simp only [Bool.and_eq_true, decide_eq_true_eq] at h2
          exact ⟨fun h => by omega, fun h => absurd ⟨h2.1, ha.1, h2.2⟩ (h.2 o ho)⟩
        · rw [if_neg ha]
          refine ⟨fun _ => ⟨hw', fun o ho hu => ha ⟨hu.2.1, List.any_eq_true.2 ⟨o, ho, ?_⟩⟩⟩, fun _ => rfl⟩
          simp only [Bool.and_eq_true, decide_eq_true_eq]
          exact ⟨hu.1, hu.2.2⟩
    rw [recordsF]
    by_cases h0 : recordF l p r ≠ 0
    · rw [if_pos h0]
      simp only [reduceCtorEq, false_iff]
      rintro ⟨h1, h2, _⟩
      exact h0 (hrec.2 ⟨h1 r (List.mem_cons_self ..), h2 r (List.mem_cons_self ..)⟩)
    · rw [if_neg h0, wrongs_iff s (p ++ [r]) (i + 1) hp' hs', List.pairwise_cons]
      have h1 := hrec.1 (Decidable.of_not_not h0)
      constructor
      · rintro ⟨a, b, d⟩
        refine ⟨fun x hx => ?_, fun x hx o ho => ?_, fun x hx => b x hx r (by simp), d⟩
        · rcases List.mem_cons.1 hx with rfl | hx
          · exact h1.1
          · exact a x hx
        · rcases List.mem_cons.1 hx with rfl | hx
          · exact h1.2 o ho
          · exact b x hx o (List.mem_append.2 (.inl ho))
      · rintro ⟨a, b, d, e⟩
        refine ⟨fun x hx => a x (List.mem_cons_of_mem _ hx), fun x hx o ho => ?_, e⟩
        rcases List.mem_append.1 ho with ho | ho
        · exact b x (List.mem_cons_of_mem _ hx) o ho
        · rw [List.mem_singleton.1 ho]; exact d x hx
theorem canon_zero {l : List Rec} (h : ∀ r ∈ l, r.ok) : (canonP l).2 = 0 ↔
    (l.length ≤ 4096 ∧ (∀ r ∈ l, r.right) ∧ l.Pairwise Apart) ∧ ((∀ r ∈ l, wrongP l r = 0) ∧ l.Pairwise Unlike) ∧ plainsP l abc.data.toList = true ∧ plainsP l digits.data.toList = true := by
  rw [← check_zero h]
  constructor
  · intro hc
    have hg := good_of h hc
    unfold canonP at hc
    rw [if_neg (by rw [hg.chk]; simp)] at hc
    have hw : wrongsP l [] l 0 = none := by
      cases hw : wrongsP l [] l 0 with
      | none => rfl
      | some x =>
        exfalso
        rw [hw] at hc
        rw [wrongs_eq l [] [] 0 (by simp) hg.right (by simp)] at hw
        have : ∀ (s p : List Rec) (i : Int) (x : Int × Int), recordsF l p s i = some x → x.2 ≠ 0 := by
          intro s
          induction s with
          | nil => intro p i x h; simp [recordsF] at h
          | cons r s ih =>
            intro p i x h
            rw [recordsF] at h
            split at h
            · rename_i h2; cases h; exact h2
            · exact ih _ _ _ h
        exact this l [] 0 x hw hc
    rw [hw] at hc
    simp only at hc
    have hp : plainsP l abc.data.toList = true ∧ plainsP l digits.data.toList = true := by
      by_cases hp : plainsP l abc.data.toList = true ∧ plainsP l digits.data.toList = true
      · exact hp
      · rw [if_neg hp] at hc; simp at hc
    rw [wrongs_eq l [] [] 0 (by simp) hg.right (by simp)] at hw
    have := (wrongs_iff l [] 0 (by simp) hg.right).1 hw
    exact ⟨hg.chk, ⟨this.1, this.2.2⟩, hp⟩
  · rintro ⟨h1, ⟨h2, h3⟩, h4⟩
    have hr := check_right h h1
    unfold canonP
    rw [if_neg (by rw [h1]; simp), wrongs_eq l [] [] 0 (by simp) hr (by simp), (wrongs_iff l [] 0 (by simp) hr).2 ⟨h2, by simp, h3⟩]
    simp only
    rw [if_pos h4]
/-- What CanonTurned says. -/
theorem canon_perm {l m : List Rec} (h : ∀ r ∈ l, r.ok) (hp : l.Perm m) (hc : (canonP l).2 = 0) : (canonP m).2 = 0 ∧ Alike l m := by
  have hm : ∀ r ∈ m, r.ok := fun r hr => h r (hp.mem_iff.2 hr)
  obtain ⟨⟨h1, h2, h3⟩, ⟨h4, h5⟩, h6, h7⟩ := (canon_zero h).1 hc
  have ha : Alike l m := fun f c hf => hit_perm hp h2 h3 f c (by omega)
  refine ⟨(canon_zero hm).2 ⟨⟨by rw [← hp.length_eq]; exact h1, fun r hr => h2 r (hp.mem_iff.2 hr), (hp.pairwise_iff fun h => h.symm).1 h3⟩, ⟨fun r hr => ?_, (hp.pairwise_iff fun {a b} h hu => h ⟨hu.2.1, hu.1, hu.2.2.symm⟩).1 h5⟩, ?_, ?_⟩, ha⟩
  · rw [← ha.wrong]; exact h4 r (hp.mem_iff.2 hr)
  · rw [← ha.plains]; exact h6
  · rw [← ha.plains]; exact h7
end Go.Proofs.Ytcpdnpaedkcebaa.V
