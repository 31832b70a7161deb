/- TrieBuilds in plain words: what is refused, what is told at any numbers, and that what was handed in stays. -/
import Derived.Test.YtiaodapgankjnaaQx2
import Derived.Test.YtiaodapgankjnaaQx8
import Derived.Test.YtiaodapgankjnaaTrieLaw3
namespace Go.Proofs.Ytiaodapgankjnaa.TrieBuildsLaw
open Go Go.RowKit Go.Proofs.Ytiaodapgankjnaa.Q Go.Proofs.Ytiaodapgankjnaa.TrieRng Go.Proofs.Ytiaodapgankjnaa.TrieLaw Go.Proofs.YtiaodapgankjnaaW.PrintWords Go.Proofs.YtiaodapgankjnaaW.PrintLast Go.Proofs.YtiaodapgankjnaaW.PrintMore
set_option linter.unusedVariables false

variable {L : List S35} {d : Int}
theorem getE (hs : Srt 0 L) (d0 : 0 ≤ d) (d1 : d ≤ 65535) (c : Int) : trie_Trie_Get.f [mkT (gv L d) d] c = some (gv L d c) := by
  rw [get_is d (fun c => gv_bound hs d0 d1)]
  by_cases h : 0 ≤ c ∧ c ≤ 1114111
  · rw [if_pos h]
  · rw [if_neg h]
    by_cases h2 : c < 0
    · rw [gv_low hs h2]
    · rw [gv_high hs (by omega)]
theorem b_l1 (hs : Srt 0 L) (d0 : 0 ≤ d) (d1 : d ≤ 65535) (hl : L.length ≤ 200) (cs : List Int) (hm : cs.length ≤ 9223372036854775806) : ∀ (n i : Nat), (i + n = cs.length ∨ cs.length < i + n) → Ev (fun k => endonymlaw4_TrieBuilds.l1 k L d cs [mkT (gv L d) d] (i : Int)) true := by
  have stop : ∀ i : Int, Ev (fun k => endonymlaw4_TrieBuilds.j3 k L d cs [mkT (gv L d) d] i false) true := fun i => by
    refine Ev.step (fun k => ?_) (Ev.now _)
    rw [endonymlaw4_TrieBuilds.j3, if_neg (by simp), default_is, mk_f0, Option.bind_some]
    simp
  intro n
  induction n with
  | zero =>
    intro i hi
    refine Ev.step (fun k => ?_) (stop (i : Int))
    rw [endonymlaw4_TrieBuilds.l1, if_neg (by omega)]
  | succ n ih =>
    intro i hi
    by_cases hlt : i < cs.length
    · by_cases h1 : i < 100
      · refine Ev.step (fun k => ?_) (f := fun k => endonymlaw4_TrieBuilds.j3 k L d cs [mkT (gv L d) d] (i : Int) true) ?_
        · rw [endonymlaw4_TrieBuilds.l1, if_pos (by omega), decide_eq_true (by omega)]
        · refine Ev.step (fun k => by rw [endonymlaw4_TrieBuilds.j3, if_pos rfl, if_pos (by omega), if_pos (by omega), getE hs d0 d1, Option.bind_some]) ?_
          refine Ev.bind (rget_is L d (rd cs (i : Int)) (by omega)) (Ev.congr (fun k => ?_) (ih (i + 1) (by omega)))
          rw [if_pos rfl, w64 _ (by omega) (by omega)]
          rfl
      · refine Ev.step (fun k => ?_) (stop (i : Int))
        rw [endonymlaw4_TrieBuilds.l1, if_pos (by omega), decide_eq_false (by omega)]
    · refine Ev.step (fun k => ?_) (stop (i : Int))
      rw [endonymlaw4_TrieBuilds.l1, if_neg (by omega)]
theorem b_l0 (hs : Srt 0 L) (d0 : 0 ≤ d) (d1 : d ≤ 65535) (hl : L.length ≤ 200) (cs : List Int) (hm : cs.length ≤ 9223372036854775806) : ∀ (n i : Nat) (x : List S35), i + n = L.length → x.length = L.length → Ev (fun k => endonymlaw4_TrieBuilds.l0 k L d cs x (L.length : Int) [mkT (gv L d) d] (i : Int)) true := by
  intro n
  induction n with
  | zero =>
    intro i x hi hx
    refine Ev.step (fun k => ?_) (b_l1 hs d0 d1 hl cs hm cs.length 0 (by omega))
    rw [endonymlaw4_TrieBuilds.l0, if_neg (by omega)]
    rfl
  | succ n ih =>
    intro i x hi hx
    have hlt : i < L.length := by omega
    have hp := rd_T35_get _ _ hlt
    have hr := srt_mem hs (List.getElem_mem hlt)
    have hb : L.length ≤ 100000000 := by omega
    refine Ev.step (fun k => by rw [endonymlaw4_TrieBuilds.l0, if_pos (by omega), if_pos (by omega), if_pos (by omega), if_pos (by omega), hp, getE hs d0 d1, Option.bind_some]) ?_
    refine Ev.bind (rget_is L d _ hb) (Ev.congr (fun k => by rw [if_pos rfl, getE hs d0 d1, Option.bind_some]) ?_)
    refine Ev.bind (rget_is L d _ hb) (Ev.congr (fun k => by rw [if_pos rfl, getE hs d0 d1, Option.bind_some]) ?_)
    refine Ev.bind (rget_is L d _ hb) (Ev.congr (fun k => by rw [if_pos rfl, getE hs d0 d1, Option.bind_some]) ?_)
    refine Ev.bind (rget_is L d _ hb) (Ev.congr (fun k => ?_) (ih (i + 1) (x.set i ⟨0, 1114111, 9⟩) (by omega) (by simp [hx])))
    rw [if_pos rfl, w64 ((i : Int) + 1) (by omega) (by omega), Int.toNat_natCast]
    rfl
end Go.Proofs.Ytiaodapgankjnaa.TrieBuildsLaw
namespace Go.Proofs.Ytiaodapgankjnaa.Pure
open Go Go.RowKit Go.Proofs.Ytiaodapgankjnaa.Q Go.Proofs.Ytiaodapgankjnaa.TrieRng Go.Proofs.Ytiaodapgankjnaa.TrieLaw Go.Proofs.Ytiaodapgankjnaa.TrieBuildsLaw Go.Proofs.YtiaodapgankjnaaW.PrintWords Go.Proofs.YtiaodapgankjnaaW.PrintLast Go.Proofs.YtiaodapgankjnaaW.PrintMore
theorem TrieBuilds : endonymlaw4_TrieBuilds.Pure := by
  intro l0 a1 l2 _ _ _ _ hm2 hm3 _
  refine Ev.rounds (g := fun k => endonymlaw4_TrieBuilds.f k l0 a1 l2) ?_
  unfold endonymlaw4_TrieBuilds.f
  have hL := take_len l0
  have h200 : (l0.take 200).length ≤ 200 := by simp; omega
  have fin : ∀ (ts : List S57) (W : Int × Int), Ev (fun k => trie_Build.f k (l0.take 200) a1) (ts, W.1, W.2) → wr a1 (l0.take 200) (-1) 0 = W → (ts.isEmpty != (W.2 != 0)) = false →
      (ts.isEmpty = false → Ev (fun k => endonymlaw4_TrieBuilds.l0 k (l0.take 200) a1 l2 (l0.take 200) ((l0.take 200).length : Int) ts 0) true) → Ev (fun k => endonymlaw4_TrieBuilds.f k l0 a1 l2) true := by
    intro ts W hb hw he hE
    have hc := check_is (l0.take 200) a1 hL
    rw [hw] at hc
    obtain ⟨b, h1, h2⟩ := rsame_is (l0.take 200) (l0.take 200) hL
    have e1 : b = true := h2.2 rfl
    subst e1
    have hlen : (l0.take 200 ++ MK4).length = (l0.take 200).length + 2 := by rw [List.length_append]; rfl
    have htk : (l0.take 200 ++ MK4).take ((l0.take 200).length + 2) = l0.take 200 ++ MK4 := List.take_of_length_le (by omega)
    have m1 : rd_T35 (l0.take 200 ++ MK4) ((l0.take 200).length : Int) = ⟨-7, 0, 0⟩ := by
      rw [rd_T35_get _ _ (by omega), List.getElem_append_right (Nat.le_refl _)]
      simp [MK4]
    have m2 : rd_T35 (l0.take 200 ++ MK4) (((l0.take 200).length + 1 : Nat) : Int) = ⟨-8, 0, 0⟩ := by
      rw [rd_T35_get _ _ (by omega), List.getElem_append_right (by omega)]
      simp [MK4]
    unfold endonymlaw4_TrieBuilds.f
    refine Ev.bind (fewE l0) (Ev.bind hb (Ev.bind hc (Ev.bind told_is ?_)))
    refine Ev.congr (fun k => by rw [if_pos rfl, if_pos rfl, if_pos rfl, if_neg (by rw [he]; simp)]) ?_
    refine Ev.bind h1 ?_
    have w2 : wrap64 (((l0.take 200).length : Int) + 2) = (((l0.take 200).length + 2 : Nat) : Int) := by rw [w64 _ (by omega) (by omega)]; rfl
    have w1 : wrap64 (((l0.take 200).length : Int) + 1) = (((l0.take 200).length + 1 : Nat) : Int) := by rw [w64 _ (by omega) (by omega)]; rfl
    refine Ev.congr (f := fun k => endonymlaw4_TrieBuilds.j0 k (l0.take 200) a1 l2 (l0.take 200) ((l0.take 200).length : Int) ts false) (fun k => ?_) ?_
    · dsimp only
      rw [if_pos rfl, w2, w1, if_pos (by omega), if_pos (by rw [hlen]; omega), Int.toNat_natCast, htk, Option.bind_some, if_pos (by omega), if_pos (by rw [hlen]; omega), m1, if_pos rfl, Option.bind_some, if_pos (by omega), if_pos (by rw [hlen]; omega), m2]
      rfl
    · cases ht : ts.isEmpty
      · refine Ev.step (fun k => ?_) (hE ht)
        rw [endonymlaw4_TrieBuilds.j0, if_neg (by simp), if_neg (by rw [ht]; simp)]
      · refine Ev.step (fun k => ?_) (Ev.now _)
        rw [endonymlaw4_TrieBuilds.j0, if_neg (by simp), if_pos ht]
  rcases build_is (l0.take 200) a1 hL with ⟨p0, p1, ps, pw, pe⟩ | ⟨x, px, pw, pe⟩
  · exact fin _ (0, 0) pe pw (by rfl) (fun _ => b_l0 ps p0 p1 h200 l2 (by omega) _ 0 _ (Nat.zero_add _) rfl)
  · refine fin [] x pe pw ?_ (fun h => by cases h)
    rw [bne_iff_ne.2 px]
    rfl
end Go.Proofs.Ytiaodapgankjnaa.Pure
