/- What is wrong with ranges; what Build makes; what told tells. -/
import Derived.Test.YtiaodapgankjnaaQx0
import Derived.Test.YtiaodapgankjnaaQx14
import Derived.Test.YtiaodapgankjnaaQx2
import Derived.Test.YtiaodapgankjnaaQx4
import Derived.Test.YtiaodapgankjnaaQx5
import Derived.Test.YtiaodapgankjnaaQx6
import Derived.Test.YtiaodapgankjnaaQx9
import Derived.Test.YtiaodapgankjnaaTrieLaw2
namespace Go.Proofs.Ytiaodapgankjnaa.TrieLaw
open Go Go.RowKit Go.Proofs.Ytiaodapgankjnaa.Q Go.Proofs.Ytiaodapgankjnaa.TrieRng Go.Proofs.YtiaodapgankjnaaW.PrintWords Go.Proofs.YtiaodapgankjnaaW.PrintLast Go.Proofs.YtiaodapgankjnaaW.PrintMore
set_option linter.unusedVariables false

/-- What is wrong with ranges, the last one's end and their number ahead. -/
def wr (d : Int) : List S35 → Int → Int → Int × Int
  | [], _, n => if d < 0 ∨ d > 65535 then (n, 42) else (0, 0)
  | r :: t, a, i => if r.f0 < 0 ∨ r.f1 > 1114111 ∨ r.f0 > r.f1 then (i, 40) else if r.f2 < 0 ∨ r.f2 > 65535 then (i, 42) else if i > 0 ∧ r.f0 ≤ a then (i, 41) else wr d t r.f1 (i + 1)
theorem wr_end (d : Int) (x : Int × Int) (n : Int) : (if d < 0 then some (n, (42 : Int)) else (if d > 65535 then some (n, 42) else some (0, 0))) = some (wr d [] 0 n) := by
  unfold wr
  by_cases h1 : d < 0
  · rw [if_pos h1, if_pos (.inl h1)]
  · by_cases h2 : d > 65535
    · rw [if_neg h1, if_pos h2, if_pos (.inr h2)]
    · rw [if_neg h1, if_neg h2, if_neg (by omega)]
theorem wr_nil (d a b n : Int) : wr d [] a n = wr d [] b n := rfl
theorem wrong_l0 (l : List S35) (d : Int) (hm : l.length ≤ 100000000) : ∀ (n i : Nat) (a : Int), i + n = l.length → (0 < i → a = (rd_T35 l ((i - 1 : Nat) : Int)).f1) →
    Ev (fun k => trie_wrong.l0 k l d l (l.length : Int) (i : Int)) (wr d (l.drop i) a i) := by
  intro n
  induction n with
  | zero =>
    intro i a hi ha
    refine Ev.step (fun k => ?_) (Ev.now _)
    rw [trie_wrong.l0, if_neg (by omega), List.drop_of_length_le (by omega), wr_end d (0, 0), wr_nil d 0 a, show (l.length : Int) = i by omega]
  | succ n ih =>
    intro i a hi ha
    have hlt : i < l.length := by omega
    have hE := ih (i + 1) l[i].f1 (by omega) (fun _ => by rw [Nat.add_sub_cancel, rd_T35_get _ _ hlt])
    have hw : wrap64 ((i : Int) + 1) = ((i + 1 : Nat) : Int) := by rw [w64 _ (by omega) (by omega)]; rfl
    have hp := rd_T35_get _ _ hlt
    rw [drop_eq hlt, wr]
    by_cases h1 : l[i].f0 < 0 ∨ l[i].f1 > 1114111 ∨ l[i].f0 > l[i].f1
    · rw [if_pos h1]
      refine Ev.step (fun k => ?_) (f := fun k => trie_wrong.j1 k l d (i : Int) l (l.length : Int) (i : Int) true l[i].f0 l[i].f1 l[i].f2) (Ev.step (fun k => ?_) (Ev.now _))
      · rw [trie_wrong.l0, if_pos (by omega), if_pos (by omega), if_pos (by omega), hp]
        split
        · rfl
        · split
          · rfl
          · rw [decide_eq_true (by omega)]
      · rw [trie_wrong.j1, if_pos rfl]
    rw [if_neg h1]
    refine Ev.step (fun k => ?_) (f := fun k => trie_wrong.j1 k l d (i : Int) l (l.length : Int) (i : Int) false l[i].f0 l[i].f1 l[i].f2) ?_
    · rw [trie_wrong.l0, if_pos (by omega), if_pos (by omega), if_pos (by omega), hp, if_neg (by omega), if_neg (by omega), decide_eq_false (by omega)]
    by_cases h2 : l[i].f2 < 0 ∨ l[i].f2 > 65535
    · rw [if_pos h2]
      refine Ev.step (fun k => ?_) (f := fun k => trie_wrong.j2 k l d (i : Int) l (l.length : Int) (i : Int) true l[i].f0 l[i].f1 l[i].f2) (Ev.step (fun k => ?_) (Ev.now _))
      · rw [trie_wrong.j1, if_neg (by simp)]
        split
        · rfl
        · rw [decide_eq_true (by omega)]
      · rw [trie_wrong.j2, if_pos rfl]
    rw [if_neg h2]
    refine Ev.step (fun k => ?_) (f := fun k => trie_wrong.j2 k l d (i : Int) l (l.length : Int) (i : Int) false l[i].f0 l[i].f1 l[i].f2) ?_
    · rw [trie_wrong.j1, if_neg (by simp), if_neg (by omega), decide_eq_false (by omega)]
    by_cases h0 : 0 < i
    · have ha := ha h0
      have hw1 : wrap64 ((i : Int) - 1) = ((i - 1 : Nat) : Int) := by rw [w64 _ (by omega) (by omega)]; omega
      by_cases h3 : l[i].f0 ≤ a
      · rw [if_pos ⟨by omega, h3⟩]
        refine Ev.step (fun k => ?_) (Ev.now _)
        rw [trie_wrong.j2, if_neg (by simp), if_pos (by omega), hw1, if_pos (by omega), if_pos (by omega), ← ha, if_pos h3]
      · rw [if_neg (fun h => h3 h.2)]
        refine Ev.step (fun k => ?_) hE
        rw [trie_wrong.j2, if_neg (by simp), if_pos (by omega), hw1, if_pos (by omega), if_pos (by omega), ← ha, if_neg h3, hw]
    · rw [if_neg (fun h => h0 (by omega))]
      refine Ev.step (fun k => ?_) hE
      rw [trie_wrong.j2, if_neg (by simp), if_neg (by omega), hw]
theorem check_l0 (l : List S35) (d : Int) (hm : l.length ≤ 100000000) : ∀ (n i : Nat) (a : Int), i + n = l.length → (0 < i → a = (rd_T35 l ((i - 1 : Nat) : Int)).f1) →
    Ev (fun k => endonymref4_Check.l0 k l d (i : Int)) (wr d (l.drop i) a i) := by
  intro n
  induction n with
  | zero =>
    intro i a hi ha
    refine Ev.step (fun k => ?_) (Ev.now _)
    rw [endonymref4_Check.l0, if_neg (by omega), List.drop_of_length_le (by omega), wr_end d (0, 0), wr_nil d 0 a, show (l.length : Int) = i by omega]
  | succ n ih =>
    intro i a hi ha
    have hlt : i < l.length := by omega
    have hE := ih (i + 1) l[i].f1 (by omega) (fun _ => by rw [Nat.add_sub_cancel, rd_T35_get _ _ hlt])
    have hw : wrap64 ((i : Int) + 1) = ((i + 1 : Nat) : Int) := by rw [w64 _ (by omega) (by omega)]; rfl
    have hp := rd_T35_get _ _ hlt
    rw [drop_eq hlt, wr]
    by_cases h1 : l[i].f0 < 0 ∨ l[i].f1 > 1114111 ∨ l[i].f0 > l[i].f1
    · rw [if_pos h1]
      refine Ev.step (fun k => ?_) (f := fun k => endonymref4_Check.j1 k l d (i : Int) true l[i].f0 l[i].f1 l[i].f2) (Ev.step (fun k => ?_) (Ev.now _))
      · rw [endonymref4_Check.l0, if_pos (by omega), if_pos (by omega), hp]
        split
        · rfl
        · split
          · rfl
          · rw [decide_eq_true (by omega)]
      · rw [endonymref4_Check.j1, if_pos rfl]
    rw [if_neg h1]
    refine Ev.step (fun k => ?_) (f := fun k => endonymref4_Check.j1 k l d (i : Int) false l[i].f0 l[i].f1 l[i].f2) ?_
    · rw [endonymref4_Check.l0, if_pos (by omega), if_pos (by omega), hp, if_neg (by omega), if_neg (by omega), decide_eq_false (by omega)]
    by_cases h2 : l[i].f2 < 0 ∨ l[i].f2 > 65535
    · rw [if_pos h2]
      refine Ev.step (fun k => ?_) (f := fun k => endonymref4_Check.j2 k l d (i : Int) true l[i].f0 l[i].f1 l[i].f2) (Ev.step (fun k => ?_) (Ev.now _))
      · rw [endonymref4_Check.j1, if_neg (by simp)]
        split
        · rfl
        · rw [decide_eq_true (by omega)]
      · rw [endonymref4_Check.j2, if_pos rfl]
    rw [if_neg h2]
    refine Ev.step (fun k => ?_) (f := fun k => endonymref4_Check.j2 k l d (i : Int) false l[i].f0 l[i].f1 l[i].f2) ?_
    · rw [endonymref4_Check.j1, if_neg (by simp), if_neg (by omega), decide_eq_false (by omega)]
    by_cases h0 : 0 < i
    · have ha := ha h0
      have hw1 : wrap64 ((i : Int) - 1) = ((i - 1 : Nat) : Int) := by rw [w64 _ (by omega) (by omega)]; omega
      by_cases h3 : l[i].f0 ≤ a
      · rw [if_pos ⟨by omega, h3⟩]
        refine Ev.step (fun k => ?_) (Ev.now _)
        rw [endonymref4_Check.j2, if_neg (by simp), if_pos (by omega), hw1, if_pos (by omega), if_pos (by omega), ← ha, if_pos h3]
      · rw [if_neg (fun h => h3 h.2)]
        refine Ev.step (fun k => ?_) hE
        rw [endonymref4_Check.j2, if_neg (by simp), if_pos (by omega), hw1, if_pos (by omega), if_pos (by omega), ← ha, if_neg h3, hw]
    · rw [if_neg (fun h => h0 (by omega))]
      refine Ev.step (fun k => ?_) hE
      rw [endonymref4_Check.j2, if_neg (by simp), if_neg (by omega), hw]
theorem wrong_is (l : List S35) (d : Int) (hm : l.length ≤ 100000000) : Ev (fun k => trie_wrong.f k l d) (wr d l (-1) 0) := wrong_l0 l d hm l.length 0 (-1) (by omega) (by omega)
theorem check_is (l : List S35) (d : Int) (hm : l.length ≤ 100000000) : Ev (fun k => endonymref4_Check.f k l d) (wr d l (-1) 0) := check_l0 l d hm l.length 0 (-1) (by omega) (by omega)
theorem wr_ok (d : Int) : ∀ (l : List S35) (a i : Int), 0 ≤ i → -1 ≤ a → (i = 0 → a = -1) → ((wr d l a i).2 = 0 ↔ 0 ≤ d ∧ d ≤ 65535 ∧ Srt (a + 1) l) ∧ ((wr d l a i).2 = 0 → wr d l a i = (0, 0))
  | [], a, i, _, _, _ => by
    unfold wr
    by_cases h : d < 0 ∨ d > 65535
    · rw [if_pos h]
      exact ⟨⟨fun h => (by cases h), fun h => by omega⟩, fun h => (by cases h)⟩
    · rw [if_neg h]
      exact ⟨⟨fun _ => ⟨by omega, by omega, trivial⟩, fun _ => rfl⟩, fun _ => rfl⟩
  | r :: t, a, i, h0, h1, h2 => by
    unfold wr
    by_cases g1 : r.f0 < 0 ∨ r.f1 > 1114111 ∨ r.f0 > r.f1
    · rw [if_pos g1]
      refine ⟨⟨fun h => (by cases h), fun h => ?_⟩, fun h => (by cases h)⟩
      have := h.2.2
      simp only [Srt] at this
      omega
    rw [if_neg g1]
    by_cases g2 : r.f2 < 0 ∨ r.f2 > 65535
    · rw [if_pos g2]
      refine ⟨⟨fun h => (by cases h), fun h => ?_⟩, fun h => (by cases h)⟩
      have := h.2.2
      simp only [Srt] at this
      omega
    rw [if_neg g2]
    by_cases g3 : i > 0 ∧ r.f0 ≤ a
    · rw [if_pos g3]
      refine ⟨⟨fun h => (by cases h), fun h => ?_⟩, fun h => (by cases h)⟩
      have := h.2.2
      simp only [Srt] at this
      omega
    rw [if_neg g3]
    obtain ⟨k1, k2⟩ := wr_ok d t r.f1 (i + 1) (by omega) (by omega) (by omega)
    refine ⟨k1.trans ?_, k2⟩
    constructor
    · rintro ⟨e1, e2, e3⟩
      exact ⟨e1, e2, by omega, by omega, by omega, by omega, by omega, e3⟩
    · rintro ⟨e1, e2, e3⟩
      exact ⟨e1, e2, e3.2.2.2.2.2⟩
/-- Build, where nothing is wrong, and where something is. -/
theorem build_ok {l : List S35} {d : Int} (hm : l.length ≤ 100000000) (h0 : 0 ≤ d) (h1 : d ≤ 65535) (hs : Srt 0 l) : Ev (fun k => trie_Build.f k l d) ([mkT (gv l d) d], 0, 0) := by
  have h := wr_ok d l (-1) 0 (by omega) (by omega) (fun _ => rfl)
  have h2 := h.2 (h.1.2 ⟨h0, h1, hs⟩)
  have h3 := wrong_is l d hm
  rw [h2] at h3
  refine Ev.bind h3 (Ev.congr (fun k => ?_) (Ev.now _))
  rfl
theorem build_is (l : List S35) (d : Int) (hm : l.length ≤ 100000000) : (0 ≤ d ∧ d ≤ 65535 ∧ Srt 0 l ∧ wr d l (-1) 0 = (0, 0) ∧ Ev (fun k => trie_Build.f k l d) ([mkT (gv l d) d], 0, 0)) ∨
    (∃ e : Int × Int, e.2 ≠ 0 ∧ wr d l (-1) 0 = e ∧ Ev (fun k => trie_Build.f k l d) ([], e)) := by
  have h := wr_ok d l (-1) 0 (by omega) (by omega) (fun _ => rfl)
  by_cases he : (wr d l (-1) 0).2 = 0
  · obtain ⟨h0, h1, hs⟩ := h.1.1 he
    exact .inl ⟨h0, h1, hs, h.2 he, build_ok hm h0 h1 hs⟩
  · refine .inr ⟨_, he, rfl, Ev.bind (wrong_is l d hm) (Ev.congr (fun k => ?_) (Ev.now _))⟩
    rw [if_neg he]
theorem bls_still {f : Int → Int} {y : List Int} {m : Nat} (h : ∀ p, m ≤ p → pcs f p = y) (hy : y ∈ bls f m) : ∀ n : Nat, bls f (m + n) = bls f m
  | 0 => rfl
  | n + 1 => by
    have := bls_still h hy n
    show bls f ((m + n) + 1) = _
    rw [bls, h _ (by omega), this, if_pos hy]
def toldL : List S35 := [⟨0, 64, 5⟩, ⟨100, 200, 7⟩]
theorem told_bls : (bls (gv toldL 0) 17408).length = 5 := by
  have h : ∀ p, 4 ≤ p → pcs (gv toldL 0) p = List.replicate 64 0 := by
    intro p hp
    rw [pcs_eq (g := fun _ => 0) (fun j hj => ?_)]
    · unfold pcs
      rw [List.map_const']
      simp
    · unfold toldL
      rw [gv_cons, if_neg (by show ¬ ((0 : Int) ≤ _ ∧ _ ≤ (64 : Int)); omega), gv_cons, if_neg (by show ¬ ((100 : Int) ≤ _ ∧ _ ≤ (200 : Int)); omega)]
      rfl
  have h5 : List.replicate 64 0 ∈ bls (gv toldL 0) 5 := by
    rw [← h 4 (by omega)]
    exact bls_mem _ (by omega)
  rw [show 17408 = 5 + 17403 from rfl, bls_still (fun p hp => h p (by omega)) h5 17403]
  decide +kernel
theorem told_is : Ev (fun k => endonymlaw4_told.f k) true := by
  have hs : Srt 0 toldL := by unfold toldL Srt Srt Srt; decide
  have hf : ∀ c, 0 ≤ gv toldL 0 c ∧ gv toldL 0 c ≤ 65535 := fun c => gv_bound hs (by omega) (by omega)
  refine Ev.bind (build_ok (l := toldL) (d := 0) (by unfold toldL; simp) (by omega) (by omega) hs) (Ev.congr (fun k => ?_) (Ev.now _))
  rw [if_pos rfl, if_neg (by simp), get_is 0 hf, get_is 0 hf, get_is 0 hf, blocks_is, mk_f2, told_bls]
  rfl
theorem foldl_scan {l : List S35} (d : Int) (hs : Srt 0 l) : l.foldl (put d) [] = scan (gv l d) d 0 1114112 [] := (scan_gv d 1114112 rfl l 0 [] hs (by omega) (by omega)).symm
theorem ranges_iff {L M : List S35} {d : Int} (hL : Srt 0 L) (hM : Srt 0 M) (h0 : 0 ≤ d) (h1 : d ≤ 65535) : L.foldl (put d) [] = M.foldl (put d) [] ↔ mkT (gv L d) d = mkT (gv M d) d := by
  rw [foldl_scan d hL, foldl_scan d hM, mk_inj]
  constructor
  · intro h
    refine ⟨rfl, fun c hc0 hc1 => ?_⟩
    have g1 := (scan_is (f := gv L d) (d := d) (fun c => gv_bound hL h0 h1) 1114112 (Nat.le_refl _)).2.2 c
    have g2 := (scan_is (f := gv M d) (d := d) (fun c => gv_bound hM h0 h1) 1114112 (Nat.le_refl _)).2.2 c
    rw [if_pos (by omega)] at g1 g2
    rw [← g1, ← g2, h]
  · rintro ⟨_, h⟩
    exact scan_congr (fun j hj => h _ (by omega) (by omega))
theorem srt_f1 {l : List S35} (hs : Srt 0 l) : ∀ q ∈ l, 0 ≤ q.f1 ∧ q.f1 ≤ 1114111 := fun q hq => by have := srt_mem hs hq; omega
theorem fewE (l : List S35) : Ev (fun _ => endonymlaw4_few.f l) (l.take 200, l.take 200) := Ev.congr (fun _ => few_is l) (Ev.now _)
theorem take_len (l : List S35) : (l.take 200).length ≤ 100000000 := by simp; omega
theorem bls_nodup (f : Int → Int) : ∀ n : Nat, (bls f n).Nodup
  | 0 => List.nodup_nil
  | n + 1 => by
    have h := bls_nodup f n
    unfold bls
    split
    · exact h
    · rename_i hn
      refine List.nodup_append.2 ⟨h, by simp, fun a ha b hb => ?_⟩
      rw [List.mem_singleton] at hb
      subst hb
      exact fun e => hn (e ▸ ha)
theorem bls_ne (f : Int → Int) (n : Nat) {i j : Nat} (hi : i < (bls f n).length) (hj : j < (bls f n).length) (h : j < i) : (bls f n)[i] ≠ (bls f n)[j] :=
  fun e => (List.pairwise_iff_getElem.1 (bls_nodup f n) j i hj hi h) e.symm
theorem put_self (a b : List Int) (h : b.length = 64) : arrPut 64 a b = b := arrN_self 64 b h
theorem block_is (f : Int → Int) (d : Int) (i : Nat) (h : i < (bls f 17408).length) : trie_Trie_Block.f [mkT f d] (i : Int) = some ((bls f 17408)[i], true) := by
  unfold trie_Trie_Block.f
  rw [Option.bind_some, if_neg (by omega), if_pos (one_pos _), rdT, mk_f2, if_neg (by omega), if_pos (by omega), if_pos (by omega), rdL4_get _ _ h, put_self _ _ ((bls_len f 17408).2 _ (List.getElem_mem h))]
theorem block_out (f : Int → Int) (d i : Int) (h : i < 0 ∨ ((bls f 17408).length : Int) ≤ i) : trie_Trie_Block.f [mkT f d] i = some (List.replicate 64 0, false) := by
  have hz : arrPut 64 (List.replicate 64 0) [] = List.replicate 64 0 := by decide
  unfold trie_Trie_Block.f
  rw [Option.bind_some, hz]
  by_cases h0 : i < 0
  · rw [if_pos h0]
  · rw [if_neg h0, if_pos (one_pos _), rdT, mk_f2, if_pos (by omega)]
end Go.Proofs.Ytiaodapgankjnaa.TrieLaw
