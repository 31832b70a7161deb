/- What the printed functions over ranges come to: the plain words of TrieRng. -/
import Derived.Test.YtiaodapgankjnaaQx0
import Derived.Test.YtiaodapgankjnaaQx14
import Derived.Test.YtiaodapgankjnaaQx2
import Derived.Test.YtiaodapgankjnaaQx4
import Derived.Test.YtiaodapgankjnaaQx5
import Derived.Test.YtiaodapgankjnaaQx6
import Derived.Test.YtiaodapgankjnaaQx9
import Derived.Test.YtiaodapgankjnaaTrieLaw
namespace Go.Proofs.Ytiaodapgankjnaa.TrieLaw
open Go Go.RowKit Go.Proofs.Ytiaodapgankjnaa.Q Go.Proofs.Ytiaodapgankjnaa.TrieRng Go.Proofs.YtiaodapgankjnaaW.PrintWords Go.Proofs.YtiaodapgankjnaaW.PrintLast Go.Proofs.YtiaodapgankjnaaW.PrintMore
set_option linter.unusedVariables false

/-! ### Same of ranges -/
theorem rsame_l0 (a b : List S35) (hl : a.length = b.length) (hm : a.length ≤ 100000000) : ∀ (n i : Nat), i + n = a.length →
    ∃ r : Bool, Ev (fun k => endonymref4_Same.l0 k a b (i : Int)) r ∧ (r = true ↔ a.drop i = b.drop i) := by
  intro n
  induction n with
  | zero =>
    intro i hi
    refine ⟨true, Ev.step (fun k => ?_) (Ev.now _), ?_⟩
    · rw [endonymref4_Same.l0, if_neg (by omega)]
    · rw [List.drop_of_length_le (by omega), List.drop_of_length_le (by omega)]; simp
  | succ n ih =>
    intro i hi
    have hlt : i < a.length := by omega
    have hlt2 : i < b.length := by omega
    by_cases he : a[i] = b[i]
    · obtain ⟨r, h1, h2⟩ := ih (i + 1) (by omega)
      refine ⟨r, Ev.step (fun k => ?_) h1, ?_⟩
      · rw [endonymref4_Same.l0, if_pos (by omega), if_pos (by omega), if_pos (by omega), rd_T35_get _ _ hlt, rd_T35_get _ _ hlt2, he, if_neg (by simp), w64 _ (by omega) (by omega)]
        rfl
      · rw [h2, drop_eq hlt, drop_eq hlt2, he]
        exact ⟨fun h => by rw [h], fun h => (List.cons.inj h).2⟩
    · refine ⟨false, Ev.step (fun k => ?_) (Ev.now _), ?_⟩
      · rw [endonymref4_Same.l0, if_pos (by omega), if_pos (by omega), if_pos (by omega), rd_T35_get _ _ hlt, rd_T35_get _ _ hlt2, if_pos]
        generalize a[i] = x at he ⊢
        generalize b[i] = y at he ⊢
        obtain ⟨x0, x1, x2⟩ := x
        obtain ⟨y0, y1, y2⟩ := y
        simp only [S35.mk.injEq, not_and] at he
        simp only [Bool.or_eq_true, Bool.not_eq_true', beq_eq_false_iff_ne, ne_eq]
        by_cases h1 : x0 = y0
        · by_cases h2 : x1 = y1
          · exact .inr (.inr (he h1 h2))
          · exact .inr (.inl h2)
        · exact .inl h1
      · rw [drop_eq hlt, drop_eq hlt2]
        constructor
        · intro h; cases h
        · intro h; exact absurd (List.cons.inj h).1 he
theorem rsame_is (a b : List S35) (hm : a.length ≤ 100000000) : ∃ r : Bool, Ev (fun k => endonymref4_Same.f k a b) r ∧ (r = true ↔ a = b) := by
  by_cases hl : a.length = b.length
  · obtain ⟨r, h1, h2⟩ := rsame_l0 a b hl hm a.length 0 (by omega)
    refine ⟨r, Ev.congr (fun k => ?_) h1, by simpa using h2⟩
    unfold endonymref4_Same.f
    rw [if_pos (by omega)]
    rfl
  · refine ⟨false, Ev.congr (fun k => ?_) (Ev.now _), ?_⟩
    · unfold endonymref4_Same.f; rw [if_neg (by omega)]
    · constructor
      · intro h; cases h
      · intro h; exact absurd (by rw [h]) hl
/-! ### the reference's Get -/
theorem put_f1 {d a b : Int} {o : List S35} {r : S35} (h : ∀ q ∈ o, a ≤ q.f1 ∧ q.f1 ≤ b) (hr : a ≤ r.f1 ∧ r.f1 ≤ b) : ∀ q ∈ put d o r, a ≤ q.f1 ∧ q.f1 ≤ b := by
  intro q hq
  by_cases hd : r.f2 = d
  · rw [put_def _ _ _ hd] at hq; exact h q hq
  rcases snoc_cases o with rfl | ⟨t, p, rfl⟩
  · rw [put_nil, if_neg hd] at hq
    rw [List.mem_singleton] at hq; subst hq; exact hr
  · rw [put_snoc, if_neg hd] at hq
    split at hq
    · rcases List.mem_append.1 hq with hq | hq
      · exact h q (by simp [hq])
      · rw [List.mem_singleton] at hq; subst hq; exact hr
    · rcases List.mem_append.1 hq with hq | hq
      · exact h q hq
      · rw [List.mem_singleton] at hq; subst hq; exact hr
theorem put_len (d : Int) (o : List S35) (r : S35) : (put d o r).length ≤ o.length + 1 := by
  unfold put
  split
  · omega
  · split
    · split
      · simp
      · simp
    · simp
theorem rr_l0 (l : List S35) (d : Int) (hm : l.length ≤ 100000000) (hl : ∀ q ∈ l, 0 ≤ q.f1 ∧ q.f1 ≤ 1114111) : ∀ (n i : Nat) (o : List S35), i + n = l.length → o.length ≤ i → (∀ q ∈ o, 0 ≤ q.f1 ∧ q.f1 ≤ 1114111) →
    Ev (fun k => endonymref4_Ranges.l0 k l d o (i : Int)) ((l.drop i).foldl (put d) o) := by
  intro n
  induction n with
  | zero =>
    intro i o hi ho hq
    refine Ev.step (fun k => ?_) (Ev.now _)
    rw [endonymref4_Ranges.l0, if_neg (by omega), List.drop_of_length_le (by omega)]
    rfl
  | succ n ih =>
    intro i o hi ho hq
    have hlt : i < l.length := by omega
    have hE := ih (i + 1) (put d o l[i]) (by omega) (by have := put_len d o l[i]; omega) (put_f1 hq (hl _ (List.getElem_mem hlt)))
    rw [drop_eq hlt, List.foldl_cons]
    have hw : wrap64 ((i : Int) + 1) = ((i + 1 : Nat) : Int) := by rw [w64 _ (by omega) (by omega)]; rfl
    refine Ev.step (fun k => ?_) hE
    rw [endonymref4_Ranges.l0, if_pos (by omega), if_pos (by omega), rd_T35_get _ _ hlt, hw]
    by_cases hd : l[i].f2 = d
    · rw [if_pos hd, put_def _ _ _ hd]
    rw [if_neg hd]
    rcases snoc_cases o with rfl | ⟨t, p, rfl⟩
    · rw [if_neg (by simp), if_pos (by simp), put_nil, if_neg hd]
      rfl
    · have hlen : (t ++ [p]).length = t.length + 1 := by simp
      have hw2 : wrap64 (((t ++ [p]).length : Int) - 1) = (t.length : Int) := by rw [hlen, w64 _ (by omega) (by omega)]; omega
      have hrd : rd_T35 (t ++ [p]) (t.length : Int) = p := by rw [rd_T35_get _ _ (by omega)]; simp
      rw [if_pos (by omega), hw2, if_pos (by omega), if_pos (by omega), hrd, put_snoc, if_neg hd]
      have hp := hq p (by simp)
      by_cases h2 : p.f2 = l[i].f2
      · rw [if_pos h2, w64 (p.f1 + 1) (by omega) (by omega)]
        by_cases h3 : p.f1 + 1 = l[i].f0
        · rw [if_pos h3, if_pos ⟨h2, h3⟩, Int.toNat_natCast]
          simp
        · rw [if_neg h3, if_pos (show (t ++ [p]).length < _ by omega), if_neg (fun h => h3 h.2)]
      · rw [if_neg h2, if_pos (show (t ++ [p]).length < _ by omega), if_neg (fun h => h2 h.1)]
theorem rr_is (l : List S35) (d : Int) (hm : l.length ≤ 100000000) (hl : ∀ q ∈ l, 0 ≤ q.f1 ∧ q.f1 ≤ 1114111) : Ev (fun k => endonymref4_Ranges.f k l d) (l.foldl (put d) []) :=
  rr_l0 l d hm hl l.length 0 [] (by omega) (by simp) (by simp)
/-! ### a trie's Ranges -/
theorem put_end {d : Int} {o : List S35} {r : S35} (h : r.f2 ≠ d) : ∃ t q, put d o r = t ++ [q] ∧ q.f1 = r.f1 ∧ q.f2 = r.f2 := by
  rcases snoc_cases o with rfl | ⟨t, p, rfl⟩
  · exact ⟨[], r, by rw [put_nil, if_neg h]; rfl, rfl, rfl⟩
  · rw [put_snoc, if_neg h]
    by_cases h2 : p.f2 = r.f2 ∧ p.f1 + 1 = r.f0
    · exact ⟨t, _, if_pos h2, rfl, h2.1⟩
    · exact ⟨t ++ [p], r, if_neg h2, rfl, rfl⟩
theorem scan_len (f : Int → Int) (d a : Int) (o : List S35) : ∀ n : Nat, (scan f d a n o).length ≤ o.length + n
  | 0 => Nat.le_refl _
  | n + 1 => by
    have h1 := scan_len f d a o n
    have h2 := put_len d (scan f d a n o) ⟨a + n, a + n, f (a + n)⟩
    rw [scan]
    omega
theorem scan_lastv {f : Int → Int} {d : Int} (hf : ∀ c, 0 ≤ f c ∧ f c ≤ 65535) {n : Nat} (hn : n ≤ 1114112) {t : List S35} {q : S35} (h : scan f d 0 n [] = t ++ [q]) : q.f2 = f q.f1 ∧ 0 ≤ q.f1 ∧ q.f1 < n := by
  obtain ⟨h1, h2, h3⟩ := scan_is (d := d) hf n hn
  rw [h] at h1 h2 h3
  obtain ⟨g1, g2, g3, g4, g5, g6, g7⟩ := srt_snoc.1 h1
  have h4 := h3 q.f1
  have h5 := h2 q (by simp)
  rw [gv_snoc d _ q t g2, if_pos (by omega), if_pos (by omega)] at h4
  exact ⟨h4, by omega, h5⟩
theorem tr_l0 {f : Int → Int} {d : Int} (hf : ∀ c, 0 ≤ f c ∧ f c ≤ 65535) : ∀ (n c : Nat) (v : Int), c + n = 1114112 → (v = if c = 0 then d else f ((c : Int) - 1)) →
    Ev (fun k => trie_Trie_Ranges.l0 k [mkT f d] (scan f d 0 c []) v (c : Int)) (scan f d 0 1114112 []) := by
  intro n
  induction n with
  | zero =>
    intro c v hc hv
    refine Ev.step (fun k => ?_) (Ev.now _)
    rw [trie_Trie_Ranges.l0, if_neg (by omega), show c = 1114112 by omega]
  | succ n ih =>
    intro c v hc hv
    have hE := ih (c + 1) (f (c : Int)) (by omega) (by rw [if_neg (by omega)]; congr 1; omega)
    have hw : wrap64 ((c : Int) + 1) = ((c + 1 : Nat) : Int) := by rw [w64 _ (by omega) (by omega)]; rfl
    refine Ev.step (fun k => ?_) hE
    rw [trie_Trie_Ranges.l0, if_pos (by omega), get_is d hf, if_pos (show 0 ≤ (c : Int) ∧ (c : Int) ≤ 1114111 by omega), Option.bind_some, if_pos (one_pos _), rdT, mk_f0, hw]
    rw [scan, Int.zero_add]
    by_cases hd : f c = d
    · rw [if_pos hd, put_def _ _ _ hd]
    rw [if_neg hd]
    have hsl := scan_len f d 0 [] c
    rw [List.length_nil] at hsl
    by_cases hfv : f c = v
    · rw [if_pos hfv]
      have hc0 : c ≠ 0 := fun e => hd (by rw [hfv, hv, if_pos e])
      rw [if_neg hc0] at hv
      obtain ⟨m, rfl⟩ : ∃ m, c = m + 1 := ⟨c - 1, by omega⟩
      have hvm : v = f (m : Int) := by rw [hv]; congr 1; omega
      obtain ⟨t, q, h1, h2, h3⟩ := put_end (d := d) (o := scan f d 0 m []) (r := ⟨0 + m, 0 + m, f (0 + m)⟩) (by show f (0 + m) ≠ d; rw [Int.zero_add, ← hvm, ← hfv]; exact hd)
      have h4 : scan f d 0 (m + 1) [] = t ++ [q] := h1
      have e1 : q.f1 = m := h2.trans (Int.zero_add _)
      have e2 : q.f2 = f m := h3.trans (by show f (0 + m) = f m; rw [Int.zero_add])
      rw [h4] at hsl ⊢
      have hlen : (t ++ [q]).length = t.length + 1 := by simp
      have hw2 : wrap64 (((t ++ [q]).length : Int) - 1) = (t.length : Int) := by rw [hlen, w64 _ (by omega) (by omega)]; omega
      have hrd : rd_T35 (t ++ [q]) (t.length : Int) = q := by rw [rd_T35_get _ _ (by omega)]; simp
      rw [hw2, if_pos (by omega), if_pos (by omega), hrd, put_snoc, if_neg (show ¬ f ((m + 1 : Nat) : Int) = d from hd), if_pos ⟨by rw [e2, ← hvm, ← hfv], by rw [e1]; rfl⟩, Int.toNat_natCast]
      simp
    · rw [if_neg hfv, if_pos (by omega)]
      rcases snoc_cases (scan f d 0 c []) with h0 | ⟨t, q, h0⟩
      · rw [h0, put_nil, if_neg (show ¬ f (c : Int) = d from hd)]
        rfl
      · obtain ⟨g1, g2, g3⟩ := scan_lastv hf (show c ≤ 1114112 by omega) h0
        rw [h0, put_snoc, if_neg (show ¬ f (c : Int) = d from hd), if_neg]
        rintro ⟨e1, e2⟩
        have e2 : q.f1 + 1 = (c : Int) := e2
        have e1 : q.f2 = f c := e1
        apply hfv
        rw [← e1, g1, hv, if_neg (by omega)]
        congr 1
        omega
theorem tr_is {f : Int → Int} {d : Int} (hf : ∀ c, 0 ≤ f c ∧ f c ≤ 65535) : Ev (fun k => trie_Trie_Ranges.f k [mkT f d]) (scan f d 0 1114112 []) := by
  refine Ev.congr (fun k => ?_) (tr_l0 hf 1114112 0 d (by omega) rfl)
  unfold trie_Trie_Ranges.f
  rw [if_pos (one_pos _), rdT, mk_f0]
  rfl
end Go.Proofs.Ytiaodapgankjnaa.TrieLaw
