/- TrieBlocks in plain words: the index, each block and the ranges are the document's. -/
import Derived.Test.YtiaodapgankjnaaQx15
import Derived.Test.YtiaodapgankjnaaTrieBlk
namespace Go.Proofs.Ytiaodapgankjnaa.TrieBlocksLaw
open Go Go.RowKit Go.Proofs.Ytiaodapgankjnaa.Q Go.Proofs.Ytiaodapgankjnaa.TrieRng Go.Proofs.Ytiaodapgankjnaa.TrieLaw Go.Proofs.YtiaodapgankjnaaW.PrintWords Go.Proofs.YtiaodapgankjnaaW.PrintLast Go.Proofs.YtiaodapgankjnaaW.PrintMore
set_option linter.unusedVariables false
set_option linter.unusedSectionVars false

section
variable {L : List S35} {d : Int} (hs : Srt 0 L) (d0 : 0 ≤ d) (d1 : d ≤ 65535) (hl : L.length ≤ 200) (a2 : Int)
include hs d0 d1 hl
theorem t_j6 : Ev (fun k => endonymlaw4_TrieBlocks.j6 k L d [mkT (gv L d) d] (mkT (gv L d) d).f1 (mkT (gv L d) d).f1 (scan (gv L d) d 0 1114112 []) false) true := by
  have hf : ∀ c, 0 ≤ gv L d c ∧ gv L d c ≤ 65535 := fun c => gv_bound hs d0 d1
  have hrr := rr_is L d (by omega) (srt_f1 hs)
  rw [foldl_scan d hs] at hrr
  obtain ⟨b2, h3, h4⟩ := rsame_is (scan (gv L d) d 0 1114112 []) (scan (gv L d) d 0 1114112 []) (by have := scan_len (gv L d) d 0 [] 1114112; rw [List.length_nil] at this; omega)
  have e2 : b2 = true := h4.2 rfl
  subst e2
  refine Ev.step (fun k => by rw [endonymlaw4_TrieBlocks.j6, if_neg (by simp), if_pos rfl, if_pos (by rw [mk_len]; omega), if_pos (by rw [mk_len]; omega), if_pos rfl, index_is, Option.bind_some, if_pos (by rw [mk_len]; omega), if_pos (by rw [mk_len]; omega), if_pos rfl]) ?_
  exact Ev.bind hrr (Ev.bind h3 (Ev.congr (fun k => if_pos rfl) (Ev.bind (tr_is hf) (Ev.bind h3 (Ev.now _)))))
theorem t_end (i : Int) : Ev (fun k => endonymlaw4_TrieBlocks.j5 k L d a2 [mkT (gv L d) d] (mkT (gv L d) d).f1 (bls (gv L d) 17408) (mkT (gv L d) d).f1 (scan (gv L d) d 0 1114112 []) i false) true := by
  have hj := t_j6 hs d0 d1 hl
  have hz : arrPut 64 (List.replicate 64 0) (List.replicate 64 0) = List.replicate 64 0 := by decide
  have hq : arrEq 64 (List.replicate 64 0) [] = true := by decide
  by_cases hout : a2 < 0 ∨ ((bls (gv L d) 17408).length : Int) ≤ a2
  · refine Ev.step (fun k => ?_) hj
    rw [endonymlaw4_TrieBlocks.j5, if_neg (by simp), block_out _ _ _ hout, Option.bind_some, Option.bind_some, hz, hq]
    by_cases h0 : a2 < 0
    · rw [if_pos h0, if_neg (by simp)]
      rfl
    · rw [if_neg h0, if_pos (by omega), if_neg (by simp)]
      rfl
  · obtain ⟨n, rfl⟩ := Int.eq_ofNat_of_zero_le (show 0 ≤ a2 by omega)
    refine Ev.step (fun k => ?_) hj
    rw [endonymlaw4_TrieBlocks.j5, if_neg (by simp), block_is _ _ n (by omega), Option.bind_some, Option.bind_some, if_neg (by omega), if_neg (by omega)]
theorem t_l2 : ∀ (n i : Nat), i + n = 301 → Ev (fun k => endonymlaw4_TrieBlocks.l2 k L d a2 [mkT (gv L d) d] (mkT (gv L d) d).f1 (bls (gv L d) 17408) (mkT (gv L d) d).f1 (scan (gv L d) d 0 1114112 []) (i : Int)) true := by
  have hb := bls_len (gv L d) 17408
  intro n
  induction n with
  | zero =>
    intro i hi
    refine Ev.step (fun k => ?_) (t_end hs d0 d1 hl a2 (i : Int))
    rw [endonymlaw4_TrieBlocks.l2]
    split
    · rw [decide_eq_false (by omega)]
    · rfl
  | succ n ih =>
    intro i hi
    by_cases hlt : i < (bls (gv L d) 17408).length
    · by_cases h3 : i < 300
      · refine Ev.step (fun k => ?_) (Ev.step (fun k => ?_) (ih (i + 1) (by omega))) (f := fun k => endonymlaw4_TrieBlocks.j5 k L d a2 [mkT (gv L d) d] (mkT (gv L d) d).f1 (bls (gv L d) 17408) (mkT (gv L d) d).f1 (scan (gv L d) d 0 1114112 []) (i : Int) true)
        · rw [endonymlaw4_TrieBlocks.l2, if_pos (by omega), decide_eq_true (by omega)]
        · have h64 := hb.2 _ (List.getElem_mem hlt)
          rw [endonymlaw4_TrieBlocks.j5, if_pos rfl, block_is _ _ i hlt, Option.bind_some, if_pos rfl, if_pos (by omega), if_pos (by omega), put_self _ _ h64, rdL4_get _ _ hlt, if_pos ((arrEq_iff _ _ h64 h64).2 rfl), w64 _ (by omega) (by omega)]
          rfl
      · refine Ev.step (fun k => ?_) (t_end hs d0 d1 hl a2 (i : Int))
        rw [endonymlaw4_TrieBlocks.l2, if_pos (by omega), decide_eq_false (by omega)]
    · refine Ev.step (fun k => ?_) (t_end hs d0 d1 hl a2 (i : Int))
      rw [endonymlaw4_TrieBlocks.l2, if_neg (by omega)]
theorem t_l1 : ∀ (n i : Nat) (x : List S35), x.length ≤ 1114112 → i + n = x.length → Ev (fun k => endonymlaw4_TrieBlocks.l1 k L d a2 [mkT (gv L d) d] (mkT (gv L d) d).f1 (bls (gv L d) 17408) (mkT (gv L d) d).f1 x (scan (gv L d) d 0 1114112 []) (i : Int)) true := by
  intro n
  induction n with
  | zero =>
    intro i x hx hi
    refine Ev.step (fun k => ?_) (t_l2 hs d0 d1 hl a2 301 0 (by omega))
    rw [endonymlaw4_TrieBlocks.l1, if_neg (by omega)]
    rfl
  | succ n ih =>
    intro i x hx hi
    refine Ev.step (fun k => ?_) (ih (i + 1) (x.set i ⟨0, 0, 0⟩) (by simpa using hx) (by simp; omega))
    rw [endonymlaw4_TrieBlocks.l1, if_pos (by omega), if_pos (by omega), w64 _ (by omega) (by omega), Int.toNat_natCast]
    rfl
theorem t_l0 (r : List S35) (hr : r.length ≤ 1114112) : ∀ (n i : Nat) (x : List Int), i + n = 17408 → x.length = 17408 → (∀ j : Nat, i ≤ j → j < 17408 → rd x (j : Int) = rd (mkT (gv L d) d).f1 (j : Int)) →
    Ev (fun k => endonymlaw4_TrieBlocks.l0 k L d a2 [mkT (gv L d) d] (mkT (gv L d) d).f1 (bls (gv L d) 17408) x (mkT (gv L d) d).f1 r (scan (gv L d) d 0 1114112 []) (i : Int)) true := by
  intro n
  induction n with
  | zero =>
    intro i x hi hx h
    refine Ev.step (fun k => ?_) (t_l1 hs d0 d1 hl a2 r.length 0 r hr (by omega))
    rw [endonymlaw4_TrieBlocks.l0, if_neg (by omega)]
    rfl
  | succ n ih =>
    intro i x hi hx h
    refine Ev.step (fun k => ?_) (ih (i + 1) (x.set i 65535) (by omega) (by simpa using hx) (fun j hj hj2 => ?_))
    · rw [endonymlaw4_TrieBlocks.l0, if_pos (by omega), if_pos (by omega), if_pos (by rw [mk_len]; omega), if_pos (h i (Nat.le_refl _) (by omega)), w64 _ (by omega) (by omega), Int.toNat_natCast]
      rfl
    · rw [← h j (by omega) hj2]
      simp only [rd, Int.toNat_natCast, List.getD_eq_getElem?_getD]
      rw [List.getElem?_set_ne (by omega)]
end
end Go.Proofs.Ytiaodapgankjnaa.TrieBlocksLaw
namespace Go.Proofs.Ytiaodapgankjnaa.Pure
open Go Go.RowKit Go.Proofs.Ytiaodapgankjnaa.Q Go.Proofs.Ytiaodapgankjnaa.TrieRng Go.Proofs.Ytiaodapgankjnaa.TrieLaw Go.Proofs.Ytiaodapgankjnaa.TrieBlocksLaw Go.Proofs.YtiaodapgankjnaaW.PrintWords Go.Proofs.YtiaodapgankjnaaW.PrintLast Go.Proofs.YtiaodapgankjnaaW.PrintMore
attribute [local irreducible] mkT bls scan
theorem TrieBlocks : endonymlaw4_TrieBlocks.Pure := by
  intro l0 a1 a2 _ _ _ _ _
  refine Ev.rounds (g := fun k => endonymlaw4_TrieBlocks.f k l0 a1 a2) ?_
  unfold endonymlaw4_TrieBlocks.f
  have hL := take_len l0
  have h200 : (l0.take 200).length ≤ 200 := by simp; omega
  have hc := check_is (l0.take 200) a1 hL
  rcases build_is (l0.take 200) a1 hL with ⟨p0, p1, ps, pw, pe⟩ | ⟨x, px, pw, pe⟩
  · rw [pw] at hc
    have hf : ∀ c, 0 ≤ gv (l0.take 200) a1 c ∧ gv (l0.take 200) a1 c ≤ 65535 := fun c => gv_bound ps p0 p1
    have hsl : (scan (gv (l0.take 200) a1) a1 0 1114112 []).length ≤ 1114112 := by have := scan_len (gv (l0.take 200) a1) a1 0 [] 1114112; rw [List.length_nil] at this; omega
    obtain ⟨b2, h3, h4⟩ := rsame_is (scan (gv (l0.take 200) a1) a1 0 1114112 []) (scan (gv (l0.take 200) a1) a1 0 1114112 []) (by omega)
    have e2 : b2 = true := h4.2 rfl
    subst e2
    have hrr := rr_is (l0.take 200) a1 hL (srt_f1 ps)
    rw [foldl_scan a1 ps] at hrr
    refine Ev.bind (fewE l0) (Ev.bind pe (Ev.bind hc ?_))
    refine Ev.congr (fun k => if_pos rfl) ?_
    refine Ev.bind told_is (Ev.congr (fun k => if_pos rfl) ?_)
    refine Ev.step (fun k => by rw [endonymlaw4_TrieBlocks.j0, if_neg (by simp)]) ?_
    refine Ev.bind (rblocks_is ps p0 p1 hL) ?_
    refine Ev.congr (fun k => by rw [index_is, Option.bind_some, Option.bind_some]) ?_
    refine Ev.bind (tr_is hf) (Ev.bind (tr_is hf) ?_)
    refine Ev.congr (fun k => by rw [if_pos rfl, blocks_is, Option.bind_some, mk_f2, if_pos rfl]) ?_
    refine Ev.bind hrr (Ev.bind h3 ?_)
    refine Ev.step (fun k => by rw [endonymlaw4_TrieBlocks.j1, if_neg (by simp)]) ?_
    exact t_l0 ps p0 p1 h200 a2 _ hsl 17408 0 _ (Nat.zero_add _) (mk_len _ _) (fun j _ _ => rfl)
  · rw [pw] at hc
    refine Ev.bind (fewE l0) (Ev.bind pe (Ev.bind hc ?_))
    refine Ev.congr (fun k => if_neg px) ?_
    refine Ev.bind told_is (Ev.congr (fun k => ?_) (Ev.now _))
    rw [if_pos rfl, beq_self_eq_true]
end Go.Proofs.Ytiaodapgankjnaa.Pure
