/- What the printed functions over tries come to: the plain words of TrieRng. -/
import Derived.Test.YtiaodapgankjnaaQx0
import Derived.Test.YtiaodapgankjnaaQx14
import Derived.Test.YtiaodapgankjnaaQx2
import Derived.Test.YtiaodapgankjnaaQx4
import Derived.Test.YtiaodapgankjnaaQx5
import Derived.Test.YtiaodapgankjnaaQx6
import Derived.Test.YtiaodapgankjnaaQx9
import Derived.Test.YtiaodapgankjnaaTrieRng
namespace Go.Proofs.Ytiaodapgankjnaa.TrieLaw
open Go Go.RowKit Go.Proofs.Ytiaodapgankjnaa.Q Go.Proofs.Ytiaodapgankjnaa.TrieRng Go.Proofs.YtiaodapgankjnaaW.PrintWords Go.Proofs.YtiaodapgankjnaaW.PrintLast Go.Proofs.YtiaodapgankjnaaW.PrintMore
set_option linter.unusedVariables false

theorem w64 (n : Int) (h1 : -9223372036854775808 ≤ n) (h2 : n ≤ 9223372036854775807) : wrap64 n = n := by unfold wrap64; omega
theorem rd_T35_get (l : List S35) (i : Nat) (h : i < l.length) : rd_T35 l (i : Int) = l[i] := by
  simp [rd_T35, List.getD_eq_getElem?_getD, h]
theorem few_is (l : List S35) : endonymlaw4_few.f l = some (l.take 200, l.take 200) := by
  have hm : mn (l.length : Int) 200 = ((min l.length 200 : Nat) : Int) := by unfold mn; split <;> omega
  have ht : l.take (min l.length 200) = l.take 200 := by
    by_cases h : l.length ≤ 200
    · rw [Nat.min_eq_left h, List.take_of_length_le (Nat.le_refl _), List.take_of_length_le h]
    · rw [Nat.min_eq_right (by omega)]
  have hl : (l.take 200).length = min l.length 200 := by simp [Nat.min_comm]
  unfold endonymlaw4_few.f
  rw [hm, if_pos (by omega), if_pos (by omega), Int.toNat_natCast, ht]
  simp only [Option.bind_some, List.nil_append, List.length_nil, Nat.zero_add]
  rw [if_pos (by omega)]
  rw [if_pos (by rw [hl]; show min l.length 200 + 2 < _; omega)]
  rw [if_pos (by rw [List.length_append, hl]; show _ ≤ ((min l.length 200 + 2 : Nat) : Int); omega)]
  rw [List.take_append_of_le_length (by rw [hl]; exact Nat.le_refl _), List.take_of_length_le (by rw [hl]; exact Nat.le_refl _)]
theorem pcs_cong {f g : Int → Int} (h : ∀ c, 0 ≤ c → c ≤ 1114111 → f c = g c) {p : Nat} (hp : p < 17408) : pcs f p = pcs g p := pcs_eq (fun j hj => h _ (by omega) (by omega))
theorem pcs_inj {f g : Int → Int} (h : ∀ p : Nat, p < 17408 → pcs f p = pcs g p) (c : Int) (h0 : 0 ≤ c) (h1 : c ≤ 1114111) : f c = g c := by
  have hp := h (c.toNat / 64) (by omega)
  have hj : c.toNat % 64 < 64 := Nat.mod_lt _ (by decide)
  have e := congrArg (fun l => l[c.toNat % 64]?) hp
  simp only [pcs, List.getElem?_map, List.getElem?_range hj, Option.map_some, Option.some.injEq] at e
  have ec : ((64 * (c.toNat / 64) + c.toNat % 64 : Nat) : Int) = c := by omega
  rwa [ec] at e
theorem bls_mem (f : Int → Int) {p n : Nat} (h : p < n) : pcs f p ∈ bls f n := by
  obtain ⟨r, hr⟩ := bls_mono f (p + 1) (n - (p + 1))
  rw [show n = p + 1 + (n - (p + 1)) by omega, hr]
  refine List.mem_append_left _ ?_
  unfold bls
  split <;> simp_all
theorem bls_cong {f g : Int → Int} : ∀ n : Nat, (∀ p : Nat, p < n → pcs f p = pcs g p) → bls f n = bls g n
  | 0, _ => rfl
  | n + 1, h => by
    unfold bls
    rw [bls_cong n (fun p hp => h p (by omega)), h n (by omega)]
attribute [local irreducible] bls
theorem mk_f0 (f : Int → Int) (d : Int) : (mkT f d).f0 = d := rfl
theorem mk_f2 (f : Int → Int) (d : Int) : (mkT f d).f2 = bls f 17408 := rfl
theorem mk_f1 (f : Int → Int) (d : Int) : (mkT f d).f1 = (List.range 17408).map fun p => (((bls f 17408).idxOf (pcs f p) : Nat) : Int) := by simp only [mkT]
theorem mk_ext {x y : S57} (h0 : x.f0 = y.f0) (h1 : x.f1 = y.f1) (h2 : x.f2 = y.f2) : x = y := by cases x; cases y; simp_all
attribute [local irreducible] mkT
theorem one_pos (x : S57) : (0 : Int) < (([x] : List S57).length : Int) := by simp
theorem mk_cong {f g : Int → Int} {d : Int} (h : ∀ p : Nat, p < 17408 → pcs f p = pcs g p) : mkT f d = mkT g d := by
  refine mk_ext (by rw [mk_f0, mk_f0]) ?_ (by rw [mk_f2, mk_f2, bls_cong 17408 h])
  rw [mk_f1, mk_f1, bls_cong 17408 h]
  exact List.map_congr_left (fun p hp => by rw [h p (List.mem_range.1 hp)])
theorem mk_len (f : Int → Int) (d : Int) : (mkT f d).f1.length = 17408 := by rw [mk_f1, List.length_map, List.length_range]
theorem mk_idx (f : Int → Int) (d : Int) {p : Nat} (hp : p < 17408) : rd (mkT f d).f1 (p : Int) = (((bls f 17408).idxOf (pcs f p) : Nat) : Int) := by
  simp only [rd, mk_f1, Int.toNat_natCast, List.getD_eq_getElem?_getD, List.getElem?_map, List.getElem?_range hp, Option.map_some, Option.getD_some]
theorem rdL4_idx (l : List (List Int)) (y : List Int) (h : y ∈ l) : rd_L4 l ((l.idxOf y : Nat) : Int) = y := by
  have hi : l.idxOf y < l.length := List.idxOf_lt_length_iff.2 h
  simp only [rd_L4, Int.toNat_natCast, List.getD_eq_getElem?_getD, List.getElem?_eq_getElem hi, Option.getD_some]
  exact List.getElem_idxOf hi
theorem rd_pcs (f : Int → Int) (p j : Nat) (h : j < 64) : rd (pcs f p) (j : Int) = f ((64 * p + j : Nat) : Int) := by
  simp only [rd, pcs, Int.toNat_natCast, List.getD_eq_getElem?_getD, List.getElem?_map, List.getElem?_range h, Option.map_some, Option.getD_some]
theorem mk_inj {f g : Int → Int} {d e : Int} : mkT f d = mkT g e ↔ d = e ∧ ∀ c, 0 ≤ c → c ≤ 1114111 → f c = g c := by
  constructor
  · intro h
    have h0 := congrArg S57.f0 h
    rw [mk_f0, mk_f0] at h0
    refine ⟨h0, pcs_inj (fun p hp => ?_)⟩
    have h1 := mk_idx f d hp
    have h2 := mk_idx g e hp
    have h3 := rdL4_idx _ _ (bls_mem f hp)
    have h4 := rdL4_idx _ _ (bls_mem g hp)
    have h5 := congrArg S57.f2 h
    rw [mk_f2, mk_f2] at h5
    rw [← h1, h, h2, h5] at h3
    exact h3.symm.trans h4
  · rintro ⟨rfl, h⟩
    exact mk_cong (fun p hp => pcs_cong h hp)
theorem rdT (t : S57) : rd_T57 [t] 0 = t := rfl
theorem get_is {f : Int → Int} (d : Int) (hf : ∀ c, 0 ≤ f c ∧ f c ≤ 65535) (c : Int) : trie_Trie_Get.f [mkT f d] c = some (if 0 ≤ c ∧ c ≤ 1114111 then f c else d) := by
  unfold trie_Trie_Get.f
  by_cases h0 : c < 0
  · rw [if_pos h0, if_neg (show ¬ (0 ≤ c ∧ c ≤ 1114111) by omega), if_pos (one_pos _), rdT, mk_f0]
  rw [if_neg h0]
  by_cases h1 : c > 1114111
  · rw [if_pos h1, if_neg (show ¬ (0 ≤ c ∧ c ≤ 1114111) by omega), if_pos (one_pos _), rdT, mk_f0]
  rw [if_neg h1, if_pos (show 0 ≤ c ∧ c ≤ 1114111 by omega), if_pos (one_pos _), rdT]
  have hd : Int.tdiv c 64 = ((c.toNat / 64 : Nat) : Int) := by rw [Int.tdiv_eq_ediv_of_nonneg (by omega)]; omega
  have hm : Int.tmod c 64 = ((c.toNat % 64 : Nat) : Int) := by rw [Int.tmod_eq_emod_of_nonneg (by omega)]; omega
  have hp : c.toNat / 64 < 17408 := by omega
  rw [hd, hm, w64 _ (by omega) (by omega), if_pos (by omega), if_pos (by rw [mk_len]; omega), mk_idx f d hp, if_pos (by omega)]
  have hin := bls_mem f hp
  have hlt := List.idxOf_lt_length_iff.2 hin
  rw [mk_f2, if_pos (by omega), if_pos (by omega), if_pos (by omega)]
  rw [rdL4_idx _ _ hin, rd_pcs f _ _ (Nat.mod_lt _ (by decide))]
  have ec : ((64 * (c.toNat / 64) + c.toNat % 64 : Nat) : Int) = c := by omega
  rw [ec, w64 _ (by have := hf c; omega) (by have := hf c; omega)]
theorem blocks_is (t : S57) : trie_Trie_Blocks.f [t] = some (t.f2.length : Int) := by unfold trie_Trie_Blocks.f; rw [if_pos (one_pos _), rdT]
theorem index_is (f : Int → Int) (d : Int) : trie_Trie_Index.f [mkT f d] = some (mkT f d).f1 := by
  unfold trie_Trie_Index.f
  rw [if_pos (one_pos _), rdT, if_pos (by rw [mk_len, List.length_nil]; omega), List.nil_append]
theorem drop_eq {α : Type} {l : List α} {i : Nat} (h : i < l.length) : l.drop i = l[i] :: l.drop (i + 1) := List.drop_eq_getElem_cons h
theorem rd_get (l : List Int) (i : Nat) (h : i < l.length) : rd l (i : Int) = l[i] := by simp [rd, List.getD_eq_getElem?_getD, h]
theorem rdL4_get (l : List (List Int)) (i : Nat) (h : i < l.length) : rd_L4 l (i : Int) = l[i] := by simp [rd_L4, List.getD_eq_getElem?_getD, h]
end Go.Proofs.Ytiaodapgankjnaa.TrieLaw
