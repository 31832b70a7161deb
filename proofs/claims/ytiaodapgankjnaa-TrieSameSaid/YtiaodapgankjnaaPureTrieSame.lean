/- TrieSame in plain words: two tries are the same just where the fewest ranges and the default are. -/
import Derived.Test.YtiaodapgankjnaaQx10
import Derived.Test.YtiaodapgankjnaaTrieLaw3
namespace Go.Proofs.Ytiaodapgankjnaa.Pure
open Go Go.RowKit Go.Proofs.Ytiaodapgankjnaa.Q Go.Proofs.Ytiaodapgankjnaa.TrieRng Go.Proofs.Ytiaodapgankjnaa.TrieLaw Go.Proofs.YtiaodapgankjnaaW.PrintWords Go.Proofs.YtiaodapgankjnaaW.PrintLast Go.Proofs.YtiaodapgankjnaaW.PrintMore
set_option linter.unusedVariables false

theorem j2_is {f g : Int → Int} {d e : Int} {r : Bool} (h : r = true ↔ mkT f d = mkT g e) : Ev (fun k => endonymlaw4_TrieSame.j2 k [mkT f d] [mkT g e] r) true := by
  obtain ⟨b1, h1, g1⟩ := same_is f g d e
  obtain ⟨b2, h2, g2⟩ := same_is g f e d
  obtain ⟨b3, h3, g3⟩ := same_is f f d d
  have e1 : b1 = r := Bool.eq_iff_iff.2 (g1.trans h.symm)
  have e2 : b2 = r := Bool.eq_iff_iff.2 (g2.trans (eq_comm.trans h.symm))
  have e3 : b3 = true := g3.2 rfl
  subst e1 e3
  rw [e2] at h2
  refine Ev.step (fun k => by rw [endonymlaw4_TrieSame.j2]) ?_
  refine Ev.bind h1 (Ev.congr (fun k => if_pos (by simp)) ?_)
  refine Ev.bind h2 (Ev.congr (fun k => if_pos (by simp)) ?_)
  refine Ev.bind h3 (Ev.congr (fun k => if_pos rfl) ?_)
  exact Ev.bind (same_nil _) (Ev.now _)
theorem TrieSame : endonymlaw4_TrieSame.Pure := by
  intro l0 a1 l2 a3 _ _ _ _ _ _ _ _
  refine Ev.rounds (g := fun k => endonymlaw4_TrieSame.f k l0 a1 l2 a3) ?_
  unfold endonymlaw4_TrieSame.f
  have hL := take_len l0
  have hM := take_len l2
  rcases build_is (l0.take 200) a1 hL with ⟨p0, p1, ps, _, pe⟩ | ⟨x, px, _, pe⟩
  · rcases build_is (l2.take 200) a3 hM with ⟨q0, q1, qs, _, qe⟩ | ⟨y, qy, _, qe⟩
    · refine Ev.bind (fewE l0) (Ev.bind (fewE l2) (Ev.bind pe (Ev.bind qe (Ev.bind told_is ?_))))
      refine Ev.congr (fun k => (if_pos rfl).trans ((if_pos rfl).trans ((if_neg (by simp)).trans (if_pos rfl)))) ?_
      refine Ev.step (fun k => by rw [endonymlaw4_TrieSame.j0, if_neg (by simp), if_pos rfl]) ?_
      by_cases hd : a1 = a3
      · subst hd
        obtain ⟨r, h1, h2⟩ := rsame_is ((l0.take 200).foldl (put a1) []) ((l2.take 200).foldl (put a1) []) (by
          rw [foldl_scan a1 ps]; have := scan_len (gv (l0.take 200) a1) a1 0 [] 1114112; rw [List.length_nil] at this; omega)
        refine Ev.step (fun k => by rw [endonymlaw4_TrieSame.j1, if_neg (by simp), if_pos rfl]) ?_
        exact Ev.bind (rr_is _ a1 hL (srt_f1 ps)) (Ev.bind (rr_is _ a1 hM (srt_f1 qs)) (Ev.bind h1 (j2_is (h2.trans (ranges_iff ps qs p0 p1)))))
      · refine Ev.step (fun k => by rw [endonymlaw4_TrieSame.j1, if_neg (by simp), if_neg hd]) ?_
        refine j2_is ⟨fun h => (by cases h), fun h => absurd (mk_inj.1 h).1 hd⟩
    · refine Ev.bind (fewE l0) (Ev.bind (fewE l2) (Ev.bind pe (Ev.bind qe (Ev.bind told_is ?_))))
      refine Ev.congr (fun k => (if_pos rfl).trans ((if_pos rfl).trans ((if_neg (by simp)).trans (if_neg qy)))) ?_
      refine Ev.step (fun k => by rw [endonymlaw4_TrieSame.j0, if_neg (by simp), if_pos rfl]) ?_
      refine Ev.step (fun k => by rw [endonymlaw4_TrieSame.j1, if_pos (bne_iff_ne.2 qy)]) (Ev.now _)
  · rcases build_is (l2.take 200) a3 hM with ⟨q0, q1, qs, _, qe⟩ | ⟨y, qy, _, qe⟩
    · refine Ev.bind (fewE l0) (Ev.bind (fewE l2) (Ev.bind pe (Ev.bind qe (Ev.bind told_is ?_))))
      refine Ev.congr (fun k => (if_pos rfl).trans ((if_neg px).trans (if_pos rfl))) ?_
      refine Ev.step (fun k => by rw [endonymlaw4_TrieSame.j0, if_neg (by simp), if_neg px]) ?_
      refine Ev.step (fun k => by rw [endonymlaw4_TrieSame.j1, if_pos rfl]) (Ev.now _)
    · refine Ev.bind (fewE l0) (Ev.bind (fewE l2) (Ev.bind pe (Ev.bind qe (Ev.bind told_is ?_))))
      refine Ev.congr (fun k => (if_pos rfl).trans ((if_neg px).trans (if_neg qy))) ?_
      refine Ev.step (fun k => by rw [endonymlaw4_TrieSame.j0, if_neg (by simp), if_neg px]) ?_
      refine Ev.step (fun k => by rw [endonymlaw4_TrieSame.j1, if_pos rfl]) (Ev.now _)
end Go.Proofs.Ytiaodapgankjnaa.Pure
