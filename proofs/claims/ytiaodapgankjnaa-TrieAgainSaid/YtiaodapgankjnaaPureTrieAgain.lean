/- TrieAgain in plain words: the trie of a trie's ranges is that trie; no two blocks are alike; each is of some piece. -/
import Derived.Test.YtiaodapgankjnaaQx16
import Derived.Test.YtiaodapgankjnaaTrieLaw3
namespace Go.Proofs.Ytiaodapgankjnaa.TrieAgainLaw
open Go Go.RowKit Go.Proofs.Ytiaodapgankjnaa.Q Go.Proofs.Ytiaodapgankjnaa.TrieRng Go.Proofs.Ytiaodapgankjnaa.TrieLaw Go.Proofs.YtiaodapgankjnaaW.PrintWords Go.Proofs.YtiaodapgankjnaaW.PrintLast Go.Proofs.YtiaodapgankjnaaW.PrintMore
set_option linter.unusedVariables false
set_option linter.unusedSectionVars false

theorem i64_and21 (n : Int) : bits .and .i64 n 2097151 = n % 2097152 := by
  have h1 : (BitVec.ofInt 64 2097151).toNat = 2 ^ 21 - 1 := by decide
  have key : (BitVec.ofInt 64 n &&& BitVec.ofInt 64 2097151).toNat = (n % ((2 ^ 64 : Nat) : Int)).toNat % 2 ^ 21 := by
    rw [BitVec.toNat_and, BitVec.toNat_ofInt, h1, Nat.and_two_pow_sub_one_eq_mod]
  show IntKind.i64.wrap ((BitVec.ofInt 64 n &&& BitVec.ofInt 64 2097151).toNat : Nat) = n % 2097152
  rw [key, IntKind.wrap_i64]
  omega
variable {f : Int → Int} {d : Int} (hf : ∀ c, 0 ≤ f c ∧ f c ≤ 65535) (cs : List Int)
include hf
theorem a_l3 (hm : cs.length ≤ 9223372036854775806) : ∀ (n i : Nat), (i + n = cs.length ∨ cs.length < i + n) → Ev (fun k => endonymlaw4_TrieAgain.l3 k cs [mkT f d] (mkT f d).f1 (i : Int)) true := by
  intro n
  induction n with
  | zero =>
    intro i hi
    refine Ev.step (fun k => ?_) (Ev.step (fun k => ?_) (Ev.now _)) (f := fun k => endonymlaw4_TrieAgain.j9 k cs [mkT f d] (mkT f d).f1 (i : Int) false)
    · rw [endonymlaw4_TrieAgain.l3, if_neg (by omega)]
    · rw [endonymlaw4_TrieAgain.j9, if_neg (by simp)]
  | succ n ih =>
    intro i hi
    by_cases hlt : i < cs.length
    · by_cases h6 : i < 60
      · refine Ev.step (fun k => ?_) (Ev.step (fun k => ?_) (ih (i + 1) (by omega))) (f := fun k => endonymlaw4_TrieAgain.j9 k cs [mkT f d] (mkT f d).f1 (i : Int) true)
        · rw [endonymlaw4_TrieAgain.l3, if_pos (by omega), decide_eq_true (by omega)]
        · rw [endonymlaw4_TrieAgain.j9, if_pos rfl, if_pos (by omega), if_pos (by omega), i64_and21]
          obtain ⟨c, hc, hc0, hc1⟩ : ∃ c : Int, Int.tmod (rd cs (i : Int) % 2097152) 1114112 = c ∧ 0 ≤ c ∧ c ≤ 1114111 :=
            ⟨_, rfl, Int.tmod_nonneg _ (by omega), by have := Int.tmod_lt_of_pos (rd cs (i : Int) % 2097152) (show (0 : Int) < 1114112 by omega); omega⟩
          rw [hc]
          have hd : Int.tdiv c 64 = ((c.toNat / 64 : Nat) : Int) := by rw [Int.tdiv_eq_ediv_of_nonneg (by omega)]; omega
          have hmo : Int.tmod c 64 = ((c.toNat % 64 : Nat) : Int) := by rw [Int.tmod_eq_emod_of_nonneg (by omega)]; omega
          have hp : c.toNat / 64 < 17408 := by omega
          have hin := bls_mem f hp
          have hix := List.idxOf_lt_length_iff.2 hin
          have hbl := (bls_len f 17408).1
          rw [hd, hmo, w64 _ (by omega) (by omega), if_pos (by omega), if_pos (by rw [mk_len]; omega), mk_idx f d hp, w64 _ (by omega) (by omega), block_is f d _ hix, Option.bind_some, if_pos rfl, if_pos (by omega), if_pos (by omega), get_is d hf, if_pos ⟨hc0, hc1⟩, Option.bind_some, List.getElem_idxOf hix, put_self _ _ (pcs_len f _), rd_pcs f _ _ (Nat.mod_lt _ (by decide))]
          have ec : ((64 * (c.toNat / 64) + c.toNat % 64 : Nat) : Int) = c := by omega
          rw [ec, w64 (f c) (by have := hf c; omega) (by have := hf c; omega), if_pos rfl, w64 _ (by omega) (by omega)]
          rfl
      · refine Ev.step (fun k => ?_) (Ev.step (fun k => ?_) (Ev.now _)) (f := fun k => endonymlaw4_TrieAgain.j9 k cs [mkT f d] (mkT f d).f1 (i : Int) false)
        · rw [endonymlaw4_TrieAgain.l3, if_pos (by omega), decide_eq_false (by omega)]
        · rw [endonymlaw4_TrieAgain.j9, if_neg (by simp)]
    · refine Ev.step (fun k => ?_) (Ev.step (fun k => ?_) (Ev.now _)) (f := fun k => endonymlaw4_TrieAgain.j9 k cs [mkT f d] (mkT f d).f1 (i : Int) false)
      · rw [endonymlaw4_TrieAgain.l3, if_neg (by omega)]
      · rw [endonymlaw4_TrieAgain.j9, if_neg (by simp)]
theorem a_l2 (x15 : Int) {r : Bool} (i : Nat) (hi : i < (bls f 17408).length) (hi2 : i ≤ 100) (hE : Ev (fun k => endonymlaw4_TrieAgain.l1 k cs [mkT f d] (mkT f d).f1 x15 ((i + 1 : Nat) : Int)) r) : ∀ (n j : Nat), j + n = i →
    Ev (fun k => endonymlaw4_TrieAgain.l2 k cs [mkT f d] (mkT f d).f1 x15 (i : Int) (bls f 17408)[i] (j : Int)) r := by
  intro n
  induction n with
  | zero =>
    intro j hj
    refine Ev.step (fun k => ?_) hE
    rw [endonymlaw4_TrieAgain.l2, if_neg (by omega), w64 _ (by omega) (by omega)]
    rfl
  | succ n ih =>
    intro j hj
    have hj2 : j < (bls f 17408).length := by omega
    refine Ev.step (fun k => ?_) (ih (j + 1) (by omega))
    have h64 := (bls_len f 17408).2
    rw [endonymlaw4_TrieAgain.l2, if_pos (by omega), block_is f d j hj2, Option.bind_some, put_self _ _ (h64 _ (List.getElem_mem hj2)), if_neg, w64 _ (by omega) (by omega)]
    · rfl
    · intro h
      exact bls_ne f 17408 hi hj2 (by omega) ((arrEq_iff _ _ (h64 _ (List.getElem_mem hi)) (h64 _ (List.getElem_mem hj2))).1 h)
theorem a_l1 (hm : cs.length ≤ 9223372036854775806) : ∀ (n i : Nat), i + n = 61 → Ev (fun k => endonymlaw4_TrieAgain.l1 k cs [mkT f d] (mkT f d).f1 ((bls f 17408).length : Int) (i : Int)) true := by
  intro n
  have stop : ∀ i : Int, Ev (fun k => endonymlaw4_TrieAgain.j6 k cs [mkT f d] (mkT f d).f1 ((bls f 17408).length : Int) i false) true := fun i =>
    Ev.step (fun k => by rw [endonymlaw4_TrieAgain.j6, if_neg (by simp)]; rfl) (a_l3 (d := d) hf cs hm cs.length 0 (by omega))
  induction n with
  | zero =>
    intro i hi
    refine Ev.step (fun k => ?_) (stop (i : Int))
    rw [endonymlaw4_TrieAgain.l1]
    split
    · rw [decide_eq_false (by omega)]
    · rfl
  | succ n ih =>
    intro i hi
    by_cases hb : i < (bls f 17408).length
    · by_cases h6 : i < 60
      · refine Ev.step (fun k => ?_) (Ev.step (fun k => ?_) (a_l2 hf cs _ i hb (by omega) (ih (i + 1) (by omega)) i 0 (Nat.zero_add _))) (f := fun k => endonymlaw4_TrieAgain.j6 k cs [mkT f d] (mkT f d).f1 ((bls f 17408).length : Int) (i : Int) true)
        · rw [endonymlaw4_TrieAgain.l1, if_pos (by omega), decide_eq_true (by omega)]
        · rw [endonymlaw4_TrieAgain.j6, if_pos rfl, block_is f d i hb, Option.bind_some, put_self _ _ ((bls_len f 17408).2 _ (List.getElem_mem hb))]
          rfl
      · refine Ev.step (fun k => ?_) (stop (i : Int))
        rw [endonymlaw4_TrieAgain.l1, if_pos (by omega), decide_eq_false (by omega)]
    · refine Ev.step (fun k => ?_) (stop (i : Int))
      rw [endonymlaw4_TrieAgain.l1, if_neg (by omega)]
theorem a_l0 (hm : cs.length ≤ 9223372036854775806) : ∀ (n i : Nat), i + n = 17408 → Ev (fun k => endonymlaw4_TrieAgain.l0 k cs [mkT f d] (mkT f d).f1 (mkT f d).f1 ((bls f i).length : Int) (i : Int)) true := by
  intro n
  have hbl := (bls_len f 17408).1
  induction n with
  | zero =>
    intro i hi
    have hi : i = 17408 := by omega
    subst hi
    refine Ev.step (fun k => ?_) (a_l1 (d := d) hf cs hm 61 0 (by omega))
    rw [endonymlaw4_TrieAgain.l0, if_neg (by rw [mk_len]; omega), blocks_is, Option.bind_some, mk_f2, if_pos rfl]
    rfl
  | succ n ih =>
    intro i hi
    have hp : i < 17408 := by omega
    have hE := ih (i + 1) (by omega)
    have hbi := (bls_len f i).1
    have hin := bls_mem f hp
    have hlt := List.idxOf_lt_length_iff.2 hin
    have hlen : ((mkT f d).f1.length : Int) = 17408 := by rw [mk_len]; rfl
    have hw : wrap64 ((i : Int) + 1) = ((i + 1 : Nat) : Int) := by rw [w64 _ (by omega) (by omega)]; rfl
    by_cases hold : pcs f i ∈ bls f i
    · have h1 : (bls f 17408).idxOf (pcs f i) = (bls f i).idxOf (pcs f i) := bls_idx f (by omega) hold
      have h2 := List.idxOf_lt_length_iff.2 hold
      have h3 : bls f (i + 1) = bls f i := by rw [bls, if_pos hold]
      rw [h3] at hE
      refine Ev.step (fun k => ?_) (Ev.step (fun k => ?_) hE) (f := fun k => endonymlaw4_TrieAgain.j4 k cs [mkT f d] (mkT f d).f1 (mkT f d).f1 ((bls f i).length : Int) (i : Int) false)
      · rw [endonymlaw4_TrieAgain.l0, if_pos (by omega), if_pos (by omega), if_pos (by omega), if_pos rfl, mk_idx f d hp, w64 _ (by omega) (by omega), decide_eq_false (by omega)]
      · rw [endonymlaw4_TrieAgain.j4, if_neg (by simp), if_pos (by omega), if_pos (by omega), mk_idx f d hp, w64 _ (by omega) (by omega), if_neg (by omega), hw]
    · have h3 : bls f (i + 1) = bls f i ++ [pcs f i] := by rw [bls, if_neg hold]
      have h1 : (bls f 17408).idxOf (pcs f i) = (bls f i).length := by
        rw [bls_idx f (show i + 1 ≤ 17408 by omega) (bls_mem f (Nat.lt_succ_self i)), h3]
        exact idx_new hold
      rw [h3, List.length_append] at hE
      refine Ev.step (fun k => ?_) (Ev.step (fun k => ?_) hE) (f := fun k => endonymlaw4_TrieAgain.j4 k cs [mkT f d] (mkT f d).f1 (mkT f d).f1 ((bls f i).length : Int) (i : Int) false)
      · rw [endonymlaw4_TrieAgain.l0, if_pos (by omega), if_pos (by omega), if_pos (by omega), if_pos rfl, mk_idx f d hp, w64 _ (by omega) (by omega), decide_eq_false (by omega)]
      · rw [endonymlaw4_TrieAgain.j4, if_neg (by simp), if_pos (by omega), if_pos (by omega), mk_idx f d hp, w64 _ (by omega) (by omega), if_pos (by omega), hw, w64 _ (by omega) (by omega)]
        rfl
end Go.Proofs.Ytiaodapgankjnaa.TrieAgainLaw
namespace Go.Proofs.Ytiaodapgankjnaa.Pure
open Go Go.RowKit Go.Proofs.Ytiaodapgankjnaa.Q Go.Proofs.Ytiaodapgankjnaa.TrieRng Go.Proofs.Ytiaodapgankjnaa.TrieLaw Go.Proofs.Ytiaodapgankjnaa.TrieAgainLaw Go.Proofs.YtiaodapgankjnaaW.PrintWords Go.Proofs.YtiaodapgankjnaaW.PrintLast Go.Proofs.YtiaodapgankjnaaW.PrintMore
theorem TrieAgain : endonymlaw4_TrieAgain.Pure := by
  intro l0 a1 l2 _ _ _ _ hm2 hm3 _
  refine Ev.rounds (g := fun k => endonymlaw4_TrieAgain.f k l0 a1 l2) ?_
  unfold endonymlaw4_TrieAgain.f
  have hL := take_len l0
  rcases build_is (l0.take 200) a1 hL with ⟨p0, p1, ps, _, pe⟩ | ⟨x, px, _, pe⟩
  · have hf : ∀ c, 0 ≤ gv (l0.take 200) a1 c ∧ gv (l0.take 200) a1 c ≤ 65535 := fun c => gv_bound ps p0 p1
    generalize hF : gv (l0.take 200) a1 = F at *
    obtain ⟨s1, s2, s3⟩ := scan_is (f := F) (d := a1) hf 1114112 (Nat.le_refl _)
    have sl := scan_len F a1 0 [] 1114112
    rw [List.length_nil] at sl
    have hb := build_ok (d := a1) (l := scan F a1 0 1114112 []) (by omega) p0 p1 s1
    have hs : mkT (gv (scan F a1 0 1114112 []) a1) a1 = mkT F a1 := mk_inj.2 ⟨rfl, fun c h0 h1 => by rw [s3, if_pos (by omega)]⟩
    rw [hs] at hb
    obtain ⟨b, h1, h2⟩ := same_is F F a1 a1
    have e1 : b = true := h2.2 rfl
    subst e1
    refine Ev.bind (fewE l0) (Ev.bind pe ?_)
    refine Ev.congr (fun k => if_pos rfl) ?_
    refine Ev.step (fun k => by rw [endonymlaw4_TrieAgain.j0, if_neg (by simp)]) ?_
    refine Ev.bind (tr_is hf) ?_
    refine Ev.congr (fun k => by rw [default_is, mk_f0, Option.bind_some]) ?_
    refine Ev.bind hb (Ev.bind told_is ?_)
    refine Ev.congr (fun k => (if_pos rfl).trans ((if_pos rfl).trans (if_neg (by simp)))) ?_
    refine Ev.bind h1 (Ev.congr (fun k => if_pos rfl) ?_)
    refine Ev.congr (fun k => by rw [blocks_is, Option.bind_some, Option.bind_some]) ?_
    refine Ev.step (fun k => by rw [endonymlaw4_TrieAgain.j1, if_neg (by simp), index_is, Option.bind_some, Option.bind_some, mk_len, if_pos (by rfl)]) ?_
    refine Ev.step (fun k => by rw [endonymlaw4_TrieAgain.j2, if_neg (by simp)]) ?_
    exact a_l0 hf l2 (by omega) 17408 0 (Nat.zero_add _)
  · refine Ev.bind (fewE l0) (Ev.bind pe ?_)
    refine Ev.congr (fun k => if_neg px) ?_
    refine Ev.step (fun k => by rw [endonymlaw4_TrieAgain.j0, if_pos rfl]) ?_
    refine Ev.bind told_is (Ev.congr (fun k => if_pos rfl) ?_)
    refine Ev.congr (fun k => ?_) (Ev.now _)
    rw [bne_iff_ne.2 px]
end Go.Proofs.Ytiaodapgankjnaa.Pure
