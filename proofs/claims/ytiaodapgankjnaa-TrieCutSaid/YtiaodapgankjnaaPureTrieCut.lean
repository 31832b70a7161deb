/- TrieCut in plain words: ranges cut in two, and ranges of the default's value laid into gaps, say the same. -/
import Derived.Test.YtiaodapgankjnaaQx15
import Derived.Test.YtiaodapgankjnaaTrieLaw3
namespace Go.Proofs.Ytiaodapgankjnaa.TrieCutLaw
open Go Go.RowKit Go.Proofs.Ytiaodapgankjnaa.Q Go.Proofs.Ytiaodapgankjnaa.TrieRng Go.Proofs.Ytiaodapgankjnaa.TrieLaw Go.Proofs.YtiaodapgankjnaaW.PrintWords Go.Proofs.YtiaodapgankjnaaW.PrintLast Go.Proofs.YtiaodapgankjnaaW.PrintMore
set_option linter.unusedVariables false

theorem i64_and30 (n : Int) : bits .and .i64 n 1073741823 = n % 1073741824 := by
  have h1 : (BitVec.ofInt 64 1073741823).toNat = 2 ^ 30 - 1 := by decide
  have key : (BitVec.ofInt 64 n &&& BitVec.ofInt 64 1073741823).toNat = (n % ((2 ^ 64 : Nat) : Int)).toNat % 2 ^ 30 := by
    rw [BitVec.toNat_and, BitVec.toNat_ofInt, h1, Nat.and_two_pow_sub_one_eq_mod]
  show IntKind.i64.wrap ((BitVec.ofInt 64 n &&& BitVec.ofInt 64 1073741823).toNat : Nat) = n % 1073741824
  rw [key, IntKind.wrap_i64]
  omega
theorem gv_app (d c : Int) (b : List S35) : ∀ a : List S35, gv (a ++ b) d c = gv a (gv b d c) c
  | [] => rfl
  | q :: a => by rw [List.cons_append, gv_cons, gv_cons, gv_app d c b a]
structure CI (L : List S35) (d : Int) (m : List S35) (a : Int) (T : List S35) : Prop where
  s : Srt 0 m
  b : ∀ q ∈ m, q.f1 < a
  a0 : 0 ≤ a
  t : Srt a T
  g : ∀ c, gv (m ++ T) d c = gv L d c
variable {L m T : List S35} {d a : Int} {r : S35}
theorem ci_gap (h : CI L d m a (r :: T)) {x : Int} (h0 : a ≤ x) (h1 : x ≤ r.f0 - 1) (d0 : 0 ≤ d) (d1 : d ≤ 65535) : CI L d (m ++ [⟨x, r.f0 - 1, d⟩]) r.f0 (r :: T) := by
  obtain ⟨g1, g2, g3, g4, g5⟩ := h
  have g6 : Srt r.f0 (r :: T) := ⟨Int.le_refl _, g4.2⟩
  have g7 := g4.2
  refine ⟨srt_snoc.2 ⟨g1, fun q hq => ?_, ?_, h1, ?_, d0, d1⟩, fun q hq => ?_, by omega, g6, fun c => ?_⟩
  · have := g2 q hq
    show q.f1 < x
    omega
  · show 0 ≤ x
    omega
  · show r.f0 - 1 ≤ 1114111
    omega
  · rcases List.mem_append.1 hq with hq | hq
    · have := g2 q hq; omega
    · rw [List.mem_singleton] at hq; subst hq
      show r.f0 - 1 < r.f0
      omega
  · rw [← g5 c, List.append_assoc, gv_app d c _ m, gv_app d c (r :: T) m]
    congr 1
    show (if x ≤ c ∧ c ≤ r.f0 - 1 then d else gv (r :: T) d c) = _
    split
    · exact (gv_low g6 (by omega)).symm
    · rfl
theorem ci_one (h : CI L d m a (r :: T)) : CI L d (m ++ [r]) (r.f1 + 1) T := by
  obtain ⟨g1, g2, g3, g4, g5⟩ := h
  obtain ⟨k1, k2, k3, k4, k5, k6⟩ := g4
  refine ⟨srt_snoc.2 ⟨g1, fun q hq => ?_, by omega, k2, k3, k4, k5⟩, fun q hq => ?_, by omega, k6, fun c => ?_⟩
  · have := g2 q hq; omega
  · rcases List.mem_append.1 hq with hq | hq
    · have := g2 q hq; omega
    · rw [List.mem_singleton] at hq; subst hq; omega
  · rw [← g5 c, List.append_assoc]
    rfl
theorem ci_two (h : CI L d m a (r :: T)) {x : Int} (h0 : r.f0 ≤ x) (h1 : x < r.f1) : CI L d (m ++ [⟨r.f0, x, r.f2⟩, ⟨x + 1, r.f1, r.f2⟩]) (r.f1 + 1) T := by
  have g : CI L d m a (⟨r.f0, x, r.f2⟩ :: ⟨x + 1, r.f1, r.f2⟩ :: T) := by
    obtain ⟨g1, g2, g3, g4, g5⟩ := h
    obtain ⟨k1, k2, k3, k4, k5, k6⟩ := g4
    refine ⟨g1, g2, g3, ⟨k1, h0, by show x ≤ _; omega, k4, k5, ⟨Int.le_refl _, by show x + 1 ≤ r.f1; omega, k3, k4, k5, k6⟩⟩, fun c => ?_⟩
    rw [← g5 c, gv_app, gv_app]
    congr 1
    rw [gv_cons, gv_cons, gv_cons]
    show (if r.f0 ≤ c ∧ c ≤ x then r.f2 else if x + 1 ≤ c ∧ c ≤ r.f1 then r.f2 else gv T d c) = _
    by_cases e : r.f0 ≤ c ∧ c ≤ r.f1
    · rw [if_pos e]
      by_cases e2 : r.f0 ≤ c ∧ c ≤ x
      · rw [if_pos e2]
      · rw [if_neg e2, if_pos (by omega)]
    · rw [if_neg e, if_neg (by omega), if_neg (by omega)]
  have := ci_one (ci_one g)
  rwa [List.append_assoc] at this
theorem cut_l1 (x : List Int) (hm : x.length ≤ 100000000) : ∀ (n i : Nat), i + n = x.length → Ev (fun k => endonymlaw4_TrieCut.l1 k x x (i : Int)) true := by
  intro n
  induction n with
  | zero =>
    intro i hi
    refine Ev.step (fun k => ?_) (Ev.now _)
    rw [endonymlaw4_TrieCut.l1, if_neg (by omega)]
  | succ n ih =>
    intro i hi
    refine Ev.step (fun k => ?_) (ih (i + 1) (by omega))
    rw [endonymlaw4_TrieCut.l1, if_pos (by omega), if_pos (by omega), if_pos (by omega), if_pos rfl, w64 _ (by omega) (by omega)]
    rfl
/-- What follows where the ranges that were made say the same. -/
theorem cut_end (cuts : List Int) {L m : List S35} {d at' : Int} (hL : Srt 0 L) (d0 : 0 ≤ d) (d1 : d ≤ 65535) (hs : Srt 0 m) (hg : ∀ c, gv m d c = gv L d c) (hm : m.length ≤ 100000000) (i : Int) (hi : ¬ i < (L.length : Int)) :
    Ev (fun k => endonymlaw4_TrieCut.l0 k L d cuts [mkT (gv L d) d] m at' i) true := by
  have hf : ∀ c, 0 ≤ gv L d c ∧ gv L d c ≤ 65535 := fun c => gv_bound hL d0 d1
  have hb := build_ok hm d0 d1 hs
  rw [show gv m d = gv L d from funext hg] at hb
  obtain ⟨b, h1, h2⟩ := same_is (gv L d) (gv L d) d d
  have e1 : b = true := h2.2 rfl
  obtain ⟨b2, h3, h4⟩ := rsame_is (scan (gv L d) d 0 1114112 []) (scan (gv L d) d 0 1114112 []) (by have := scan_len (gv L d) d 0 [] 1114112; rw [List.length_nil] at this; omega)
  have e2 : b2 = true := h4.2 rfl
  subst e1 e2
  refine Ev.step (fun k => by rw [endonymlaw4_TrieCut.l0, if_neg hi]) ?_
  refine Ev.bind hb (Ev.bind told_is ?_)
  refine Ev.congr (fun k => (if_pos rfl).trans ((if_pos rfl).trans (if_neg (by simp)))) ?_
  refine Ev.bind h1 (Ev.congr (fun k => if_pos rfl) ?_)
  refine Ev.congr (fun k => by rw [blocks_is, Option.bind_some, Option.bind_some, if_pos rfl]) ?_
  refine Ev.bind (tr_is hf) (Ev.bind (tr_is hf) (Ev.bind h3 ?_))
  refine Ev.step (fun k => by rw [endonymlaw4_TrieCut.j4, if_neg (by simp), index_is, Option.bind_some, Option.bind_some]) ?_
  exact cut_l1 _ (by rw [mk_len]; omega) _ 0 (Nat.zero_add _)
theorem cut_l0 (cuts : List Int) {L : List S35} {d : Int} (hL : Srt 0 L) (hl : L.length ≤ 200) (d0 : 0 ≤ d) (d1 : d ≤ 65535) : ∀ (n i : Nat) (m : List S35) (a : Int), i + n = L.length → CI L d m a (L.drop i) → a ≤ 1114112 → m.length ≤ 3 * i →
    Ev (fun k => endonymlaw4_TrieCut.l0 k L d cuts [mkT (gv L d) d] m a (i : Int)) true := by
  intro n
  induction n with
  | zero =>
    intro i m a hi hc ha hm
    have hd : L.drop i = [] := List.drop_of_length_le (by omega)
    rw [hd] at hc
    refine cut_end cuts hL d0 d1 hc.s (fun c => ?_) (by omega) (i : Int) (by omega)
    have := hc.g c
    rwa [List.append_nil] at this
  | succ n ih =>
    intro i m a hi hc ha hm
    have hlt : i < L.length := by omega
    rw [drop_eq hlt] at hc
    have hw : wrap64 ((i : Int) + 1) = ((i + 1 : Nat) : Int) := by rw [w64 _ (by omega) (by omega)]; rfl
    have hp := rd_T35_get _ _ hlt
    obtain ⟨r0, r1, r2, r3, r4, r5⟩ := hc.t
    have a0 := hc.a0
    generalize hr : L[i] = r at *
    -- the second half: the range itself, in one or in two
    have two : ∀ (m' : List S35) (a' kk : Int), CI L d m' a' (r :: L.drop (i + 1)) → m'.length ≤ 3 * i + 1 → 0 ≤ kk → kk ≤ 1073741824 →
        Ev (fun k => if r.f1 > r.f0 then (if (wrap64 (r.f1 - r.f0)) = 0 then (none) else ((some (([(⟨r.f0, wrap64 (r.f0 + (Int.tmod kk (wrap64 (r.f1 - r.f0)))), r.f2⟩ : S35), (⟨wrap64 ((wrap64 (r.f0 + (Int.tmod kk (wrap64 (r.f1 - r.f0))))) + 1), r.f1, r.f2⟩ : S35)] : List (S35)) : List (S35))).bind fun y447 => (if m'.length + y447.length < 5864062014805 then (endonymlaw4_TrieCut.l0 k L d cuts [mkT (gv L d) d] (m' ++ y447) (wrap64 (r.f1 + 1)) (wrap64 ((i : Int) + 1))) else (none)))) else (if m'.length < 5864062014805 then (endonymlaw4_TrieCut.l0 k L d cuts [mkT (gv L d) d] (m' ++ [(⟨r.f0, r.f1, r.f2⟩ : S35)]) (wrap64 (r.f1 + 1)) (wrap64 ((i : Int) + 1))) else (none))) true := by
      intro m' a' kk hc' hm' k0 k1
      rw [hw, w64 (r.f1 + 1) (by omega) (by omega), w64 (r.f1 - r.f0) (by omega) (by omega)]
      by_cases hgt : r.f1 > r.f0
      · have t0 := Int.tmod_nonneg (r.f1 - r.f0) k0
        have t1 := Int.tmod_lt_of_pos kk (show 0 < r.f1 - r.f0 by omega)
        rw [w64 (r.f0 + kk.tmod (r.f1 - r.f0)) (by omega) (by omega), w64 (r.f0 + kk.tmod (r.f1 - r.f0) + 1) (by omega) (by omega)]
        refine Ev.congr (fun k => ?_) (ih (i + 1) _ (r.f1 + 1) (by omega) (ci_two hc' (x := r.f0 + kk.tmod (r.f1 - r.f0)) (by omega) (by omega)) (by omega) (by simp; omega))
        rw [if_pos hgt, if_neg (by omega), Option.bind_some, if_pos (by simp; omega)]
      · refine Ev.congr (fun k => ?_) (ih (i + 1) _ (r.f1 + 1) (by omega) (ci_one hc') (by omega) (by simp; omega))
        rw [if_neg hgt, if_pos (by omega)]
    have j3 : ∀ (kk : Int) (b : Bool), 0 ≤ kk → kk ≤ 1073741824 → (b = true → r.f0 > a) → Ev (fun k => endonymlaw4_TrieCut.j3 k L d cuts [mkT (gv L d) d] m a (i : Int) kk b r.f0 r.f1 r.f2) true := by
      intro kk b k0 k1 hb
      cases b
      · refine Ev.step (fun k => ?_) (two m a kk hc (by omega) k0 k1)
        rw [endonymlaw4_TrieCut.j3, if_neg (by simp)]
      · have hb := hb rfl
        have t0 := Int.tmod_nonneg (r.f0 - a) k0
        have t1 := Int.tmod_lt_of_pos kk (show 0 < r.f0 - a by omega)
        refine Ev.step (fun k => ?_) (two _ _ kk (ci_gap hc (x := a + kk.tmod (r.f0 - a)) (by omega) (by omega) d0 d1) (by simp; omega) k0 k1)
        rw [endonymlaw4_TrieCut.j3, if_pos rfl, w64 (r.f0 - a) (by omega) (by omega), if_neg (by omega), if_pos (by omega), Option.bind_some, w64 (a + kk.tmod (r.f0 - a)) (by omega) (by omega), w64 (r.f0 - 1) (by omega) (by omega)]
    have j2 : ∀ (kk : Int), 0 ≤ kk → kk ≤ 1073741824 → Ev (fun k => endonymlaw4_TrieCut.j2 k L d cuts [mkT (gv L d) d] m a (i : Int) kk r.f0 r.f1 r.f2) true := by
      intro kk k0 k1
      by_cases h3 : Int.tmod kk 3 = 0
      · refine Ev.step (fun k => by rw [endonymlaw4_TrieCut.j2, if_pos h3]) (j3 kk _ k0 k1 (fun h => of_decide_eq_true h))
      · refine Ev.step (fun k => by rw [endonymlaw4_TrieCut.j2, if_neg h3]) (j3 kk _ k0 k1 (fun h => by cases h))
    by_cases hcut : (i : Int) < (cuts.length : Int)
    · refine Ev.step (fun k => ?_) (j2 (Go.bits .and .i64 (rd cuts (i : Int)) 1073741823) ?_ ?_)
      · rw [endonymlaw4_TrieCut.l0, if_pos (by omega), if_pos (by omega), if_pos hcut, hp]
      · rw [i64_and30]; omega
      · rw [i64_and30]; omega
    · refine Ev.step (fun k => ?_) (j2 1 (by omega) (by omega))
      rw [endonymlaw4_TrieCut.l0, if_pos (by omega), if_pos (by omega), if_neg hcut, hp]
end Go.Proofs.Ytiaodapgankjnaa.TrieCutLaw
namespace Go.Proofs.Ytiaodapgankjnaa.Pure
open Go Go.RowKit Go.Proofs.Ytiaodapgankjnaa.Q Go.Proofs.Ytiaodapgankjnaa.TrieRng Go.Proofs.Ytiaodapgankjnaa.TrieLaw Go.Proofs.Ytiaodapgankjnaa.TrieCutLaw Go.Proofs.YtiaodapgankjnaaW.PrintWords Go.Proofs.YtiaodapgankjnaaW.PrintLast Go.Proofs.YtiaodapgankjnaaW.PrintMore
theorem TrieCut : endonymlaw4_TrieCut.Pure := by
  intro l0 a1 l2 _ _ _ _ _ _ _
  refine Ev.rounds (g := fun k => endonymlaw4_TrieCut.f k l0 a1 l2) ?_
  unfold endonymlaw4_TrieCut.f
  have hL := take_len l0
  rcases build_is (l0.take 200) a1 hL with ⟨p0, p1, ps, _, pe⟩ | ⟨x, px, _, pe⟩
  · refine Ev.bind (fewE l0) (Ev.bind pe ?_)
    refine Ev.congr (fun k => if_pos rfl) ?_
    refine Ev.step (fun k => by rw [endonymlaw4_TrieCut.j0, if_neg (by simp)]) ?_
    exact cut_l0 l2 ps (by simp; omega) p0 p1 (l0.take 200).length 0 [] 0 (Nat.zero_add _) ⟨trivial, by simp, by omega, ps, fun c => rfl⟩ (by omega) (by simp)
  · refine Ev.bind (fewE l0) (Ev.bind pe ?_)
    refine Ev.congr (fun k => if_neg px) ?_
    refine Ev.step (fun k => by rw [endonymlaw4_TrieCut.j0, if_pos rfl]) ?_
    refine Ev.bind told_is (Ev.congr (fun k => if_pos rfl) ?_)
    refine Ev.congr (fun k => ?_) (Ev.now _)
    rw [bne_iff_ne.2 px]
end Go.Proofs.Ytiaodapgankjnaa.Pure
