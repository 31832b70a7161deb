/- Towards the law PackPacks (what pack.Pack tells), part 6: the texts Xl Xm Pe Yq Yr Pf Pg Ys Yl Yu Yk Yo Yp Yv Xn Xp Yw Yx Xq Xt, what of them is used. -/
import Derived.Test.YtcpdnpaedkcebaaZPackPacks5
namespace Go.Proofs.Ytcpdnpaedkcebaa.V
open Go Go.RowKit
set_option linter.unusedVariables false
set_option linter.unusedSimpArgs false
set_option maxRecDepth 100000
def rs30 : List (Nat × Option Nat × Mode) := [(2, none, .plain), (3, none, .plain)]
def x10 (f : Func) : Array Oper := opsOf (seqA (seqB (seqB (seqB (codeOf f)))))
def x15 (f : Func) : Array Oper := opsOf (seqA (seqA (seqB (seqB (blkC (seqA (seqB (seqB (loopC (blkC (seqB (seqA (seqB (seqB (seqB (seqB (codeOf f)))))))))))))))))
def x21 (f : Func) : Array Oper := opsOf (seqB (seqB (seqB (blkC (seqA (seqB (seqB (loopC (blkC (seqB (seqA (seqB (seqB (seqB (seqB (codeOf f))))))))))))))))
def at_ (x : Array Oper) (i : Nat) : Oper := x.toList.getD i default
theorem x10_l : (x10 Try.f30).toList = [at_ (x10 Try.f30) 0, at_ (x10 Try.f30) 1] := by kernel_rfl
theorem x10_0 : (at_ (x10 Try.f30) 0).op = .makeMap 87 none ∧ (at_ (x10 Try.f30) 0).dst = some 30 ∧ (at_ (x10 Try.f30) 0).guard = none := ⟨by kernel_rfl, by kernel_rfl, by kernel_rfl⟩
theorem x10_1 : (at_ (x10 Try.f30) 1).op = .assign (.tmp 30) ∧ (at_ (x10 Try.f30) 1).dst = some 7 ∧ (at_ (x10 Try.f30) 1).guard = none := ⟨by kernel_rfl, by kernel_rfl, by kernel_rfl⟩
theorem x15_l : (x15 Try.f30).toList = (x15 Try.f30).toList.take 2 ++ (at_ (x15 Try.f30) 2 :: (x15 Try.f30).toList.drop 3) := by kernel_rfl
theorem x15_a : chkOps Try.prog Try.f30.ntmps (x15 Try.f30) ((x15 Try.f30).toList.take 2) q15a = true := by decide +kernel
theorem x15_b : chkOps Try.prog Try.f30.ntmps (x15 Try.f30) ((x15 Try.f30).toList.drop 3) q15b = true := by decide +kernel
theorem x15_2 : (at_ (x15 Try.f30) 2).op = .lookup 87 (.tmp 41) (.tmp 42) false ∧ (at_ (x15 Try.f30) 2).dst = some 43 ∧ (at_ (x15 Try.f30) 2).guard = none := ⟨by kernel_rfl, by kernel_rfl, by kernel_rfl⟩
theorem x21_l : (x21 Try.f30).toList = (x21 Try.f30).toList.take 4 ++ (at_ (x21 Try.f30) 4 :: (((x21 Try.f30).toList.drop 5).take 3 ++ [at_ (x21 Try.f30) 8])) := by kernel_rfl
theorem x21_a : chkOps Try.prog Try.f30.ntmps (x21 Try.f30) ((x21 Try.f30).toList.take 4) q21a = true := by decide +kernel
theorem x21_b : chkOps Try.prog Try.f30.ntmps (x21 Try.f30) (((x21 Try.f30).toList.drop 5).take 3) q21b = true := by decide +kernel
theorem x21_4 : (at_ (x21 Try.f30) 4).op = .lookup 87 (.tmp 92) (.tmp 93) false ∧ (at_ (x21 Try.f30) 4).dst = some 94 ∧ (at_ (x21 Try.f30) 4).guard = none := ⟨by kernel_rfl, by kernel_rfl, by kernel_rfl⟩
theorem x21_8 : (at_ (x21 Try.f30) 8).op = .mapUpdate 87 (.tmp 90) (.tmp 91) (.tmp 97) ∧ (at_ (x21 Try.f30) 8).dst = none ∧ (at_ (x21 Try.f30) 8).guard = none := ⟨by kernel_rfl, by kernel_rfl, by kernel_rfl⟩
theorem n30 : Try.f30.ntmps = 99 := by kernel_rfl
section
variable {C : Ctx} {ι : Nat → Loc} {S : Nat → Prop} {σ : Slots} {H : LH} {a : Act} {w : World} {m : Nat}
theorem reg10 {l : List Rec} {Q : Exit → Act → World → Prop} (hn : C.n = Try.f30.ntmps) (hR : R C ι S [(0, .c (.sl 8 (recs l)))] [] a w)
    (hK : ∀ m a' w' g L, R C ι S [(0, .c (.sl 8 (recs l))), (7, .c (.raw (.map (some m))))] [] a' w' → Fams C ι S [] w' [] m none g L → Q .normal a' w') :
    (Code.region 10 (x10 Try.f30) false).wp Try.prog Q a w := by
  refine wp_region_list ?_
  rw [x10_l]
  obtain ⟨p1, p2, p3⟩ := x10_0
  obtain ⟨q1, q2, q3⟩ := x10_1
  refine op_val p3 (ex_map p1) ?_
  rw [p2]
  obtain ⟨h1, hh⟩ := hR.newhid (.map #[] 0)
  have h2 := h1.put (d := some 30) (av := .c (.raw (.map (some w.heap.size)))) (v := .map (some w.heap.size)) (.c _ _ (.raw _)) (fun k hk => by injection hk with hk; subst hk; rw [hn, n30]; decide)
  have hv := slot_raw h2 (t := 30) rfl
  refine op_val (v := (a.put (some 30) (.map (some w.heap.size))).tmps.getD 30 Go.undef) q3 (by
    unfold execOp
    simp only [q1]
    rfl) ?_
  rw [q2, hv]
  have h3 := h2.put (d := some 7) (av := .c (.raw (.map (some w.heap.size)))) (v := .map (some w.heap.size)) (.c _ _ (.raw _)) (fun k hk => by injection hk with hk; subst hk; rw [hn, n30]; decide)
  unfold wpList
  refine hK w.heap.size _ _ (fun _ => .slice none 0 0) (fun _ => ⟨0, 0, 0, true⟩) (h3.weak (l := [(0, .c (.sl 8 (recs l))), (7, .c (.raw (.map (some w.heap.size))))]) ⟨rfl, rfl, trivial⟩) ⟨MapAt.new w isI _, hh, hR.fr.size, fun f _ => ?_, fun f => ?_, fun f _ hn => (by cases hn), fun f f' hn => (by cases hn)⟩
  · unfold RowR; simp [fam, recs]
  · unfold SliceAt
    simp [fam]
end
theorem cw30 (l : List Rec) (hl : ∀ r ∈ l, r.ok) (hto : ∀ r ∈ l, r.to.length ≤ 35184372088832) : CW Try.prog 30 [.cv (.sl 8 (recs l))] ⟨[.cv (.int .i64 (checkP l).1), .cv (.int .i64 (checkP l).2)], []⟩ := by
  refine CW.hand (c := codeOf Try.f30) rs30 [] Try.func30 (by kernel_rfl) (by decide +kernel) (by decide +kernel) (by show 1 ≤ _; rw [n30]; decide) (by show 1 ≤ 8; decide) trivial (fun C ι S a w hn hO' hR => ?_)
  have hO : ∀ b, ¬ C.O b := fun b hb => by rw [hO'] at hb; obtain ⟨id, ho, _⟩ := hb; exact ho
  have fin : ∀ {e : Exit} {ι1 : Nat → Loc} {S1 : Nat → Prop} {σ1 : Slots} {H1 : LH} {a1 : Act} {w1 : World} {p : Int × Int}, (e = .normal ∨ e = .ret) → p = checkP l → R C ι1 S1 σ1 H1 a1 w1 → Slots.get σ1 2 = .c (.int .i64 p.1) → Slots.get σ1 3 = .c (.int .i64 p.2) →
      (e = .normal ∨ e = .ret) ∧ ∃ ι' S' σ' H', R C ι' S' σ' H' a1 w1 ∧ retW σ' H' rs30 [.cv (.sl 8 (recs l))] [] ⟨[.cv (.int .i64 (checkP l).1), .cv (.int .i64 (checkP l).2)], []⟩ := by
    intro e ι1 S1 σ1 H1 a1 w1 p he hp h h2 h3
    subst hp
    exact ⟨he, ι1, S1, σ1, H1, h, ret2 rfl h2 h3⟩
  have hR : R C ι S [(0, .c (.sl 8 (recs l)))] [] a w := hR
  generalize hQ : (fun (e : Exit) (a1 : Act) (w1 : World) => (e = .normal ∨ e = .ret) ∧ ∃ ι' S' σ' H', R C ι' S' σ' H' a1 w1 ∧ retW σ' H' rs30 [.cv (.sl 8 (recs l))] [] ⟨[.cv (.int .i64 (checkP l).1), .cv (.int .i64 (checkP l).2)], []⟩) = Q
  have fin : ∀ {ι1 : Nat → Loc} {S1 : Nat → Prop} {σ1 : Slots} {H1 : LH} {a1 : Act} {w1 : World} {p : Int × Int}, p = checkP l → R C ι1 S1 σ1 H1 a1 w1 → Slots.get σ1 2 = .c (.int .i64 p.1) → Slots.get σ1 3 = .c (.int .i64 p.2) → Q .ret a1 w1 := by
    subst hQ; exact fun hp h h2 h3 => fin (.inr rfl) hp h h2 h3
  clear hQ
  rw [split30]
  refine wp_seq (code_sound (C := C) p0 _ (by rw [hn]; exact chk_p0) hR (rn_ok _ (fun _ _ _ h => h) (wa30_0 l (fun e σ H => e = .norm ∧ Has σ [(0, .c (.sl 8 (recs l)))] ∧ H = []) fun σ h => ⟨rfl, h, rfl⟩)) fun e ι1 S1 σ1 H1 a1 w1 hq h1 => ?_)
  obtain ⟨rfl, hs1, rfl⟩ := hq
  have h1 := R.weak h1 hs1
  refine wp_seq (code_sound (C := C) p1 _ (by rw [hn]; exact chk_p1) h1 (rn_ok _ (fun _ _ _ h => h) (wa30_1 l (fun e σ H => (e = .ret ∧ 4096 < l.length ∧ Has σ [(2, .c (.int .i64 0)), (3, .c (.int .i64 3))]) ∨ (e = .norm ∧ ¬ 4096 < l.length ∧ Has σ [(0, .c (.sl 8 (recs l)))] ∧ H = [])) (fun h4 σ H h => .inl ⟨rfl, h4, h⟩) fun h4 σ h => .inr ⟨rfl, h4, h, rfl⟩)) fun e ι2 S2 σ2 H2 a2 w2 hq h2 => ?_)
  rcases hq with ⟨rfl, h4, hs2⟩ | ⟨rfl, h4, hs2, rfl⟩
  · exact fin (p := (0, 3)) (by unfold checkP; rw [if_pos h4]) h2 hs2.1 hs2.2.1
  have h2 := R.weak h2 hs2
  refine wp_seq (code_sound (C := C) p2 _ (by rw [hn]; exact chk_p2) h2 (rn_ok _ (fun _ _ _ h => h) (wa30_2 l hto (by omega) (fun e σ H => (e = .ret ∧ ∃ i e, rightsP l 0 = some (i, e) ∧ Has σ [(2, .c (.int .i64 i)), (3, .c (.int .i64 e))]) ∨ (e = .norm ∧ rightsP l 0 = none ∧ Has σ [(0, .c (.sl 8 (recs l)))] ∧ H = [])) (fun i e h4 σ H h => .inl ⟨rfl, i, e, h4, h⟩) fun h4 σ h => .inr ⟨rfl, h4, h, rfl⟩)) fun e ι3 S3 σ3 H3 a3 w3 hq h3 => ?_)
  rcases hq with ⟨rfl, i, er, h5, hs3⟩ | ⟨rfl, h5, hs3, rfl⟩
  · exact fin (p := (i, er)) (by unfold checkP; rw [if_neg h4, h5]) h3 hs3.1 hs3.2.1
  have h3 := R.weak h3 hs3
  have hright := rightsP_none l 0 h5
  have ec : checkP l = match twiceP [] l 0 with | some i => (i, 62) | none => (0, 0) := by unfold checkP; rw [if_neg h4, h5]; rfl
  refine wp_seq (reg10 hn h3 fun m a4 w4 g L h6 F6 => ?_)
  refine wp_seq (wp_seq (code_sound (C := C.now w4 ι3 S3 []) p11 _ (by show chkC _ C.n _ _ = true; rw [hn]; exact chk_p11) h6.rebase (rn_ok _ (fun _ _ _ h => h) (wa30_11 l (.map (some m)) (fun e σ H => e = .norm ∧ Has σ (s30 l (.map (some m)) 0) ∧ H = []) fun σ h => ⟨rfl, h, rfl⟩)) fun e ι7 S7 σ7 H7 a7 w7 hq h7 => ?_))
  obtain ⟨rfl, hs7, rfl⟩ := hq
  have F7 := F6.step h6.hr h7
  have h7 := R.weak (R.unbase h6.base h7 no_ids0) hs7
  refine wp_block (LoopFrom.loop ?_)
  have main : ∀ (k i : Nat) (ι : Nat → Loc) (S : Nat → Prop) (a : Act) (w : World) (g : Value → Value) (L : Int → Loc), l.length - i < k → i ≤ l.length → twiceP (l.take i) (l.drop i) i = twiceP [] l 0 → R C ι S (s30 l (.map (some m)) i) [] a w → Fams C ι S [] w (l.take i) m none g L →
      LoopFrom Try.prog (loopC (blkC (seqB (seqA (seqB (seqB (seqB (seqB (codeOf Try.f30)))))))))
        (Exit.inBlock 2 (Exit.then (Code.wp Try.prog (seqB (seqB (seqB (seqB (seqB (codeOf Try.f30)))))) Q) Q)) a w := by
    intro k
    induction k with
    | zero => intro i _ _ _ _ _ _ h; omega
    | succ k ih =>
      intro i ι S a w g L hk hi htw hR hF
      refine LoopFrom.round ?_
      rw [split30b]
      refine wp_seq (code_sound (C := C.now w ι S []) p12 _ (by show chkC _ C.n _ _ = true; rw [hn]; exact chk_p12) hR.rebase (rn_ok _ (fun _ _ _ h => h) (wa30_12 l (.map (some m)) i (fun e σ H => e = .norm ∧ Has σ ((34, .c (.bool (decide ((i : Int) < l.length)))) :: s30 l (.map (some m)) i) ∧ H = []) fun σ h => ⟨rfl, h, rfl⟩)) fun e ι1 S1 σ1 H1 a1 w1 hq h1 => ?_)
      obtain ⟨rfl, hs1, rfl⟩ := hq
      have F1 := hF.step hR.hr h1
      have h1 := R.weak (R.unbase hR.base h1 no_ids0) hs1
      refine wp_seq (code_sound (C := C.now w1 ι1 S1 []) pc _ (by show chkC _ C.n _ _ = true; rw [hn]; exact chk_pc) h1.rebase (rn_ok _ (fun _ _ _ h => h) (wa30_c l (.map (some m)) i (fun e σ H => (e = .norm ∧ i < l.length ∧ Has σ (s30 l (.map (some m)) i) ∧ H = []) ∨ (e = .exit 2 ∧ l.length ≤ i ∧ Has σ (s30 l (.map (some m)) i) ∧ H = [])) (fun hi σ h => .inl ⟨rfl, hi, h, rfl⟩) fun hi σ h => .inr ⟨rfl, hi, h, rfl⟩)) fun e ι2 S2 σ2 H2 a2 w2 hq h2 => ?_)
      rcases hq with ⟨rfl, hlt, hs2, rfl⟩ | ⟨rfl, hge, hs2, rfl⟩
      rotate_left
      · have h2 := R.weak (l := []) (R.unbase h1.base h2 no_ids0) trivial
        show Code.wp Try.prog (seqB (seqB (seqB (seqB (seqB (codeOf Try.f30)))))) Q a2 w2
        refine code_sound (C := C) pe _ (by rw [hn]; exact chk_pe) h2 (rn_ok _ (fun _ _ _ h => h) (wa30_e (fun e σ H => e = .ret ∧ Has σ [(2, .c (.int .i64 0)), (3, .c (.int .i64 0))]) fun σ h => ⟨rfl, h⟩)) fun e ι3 S3 σ3 H3 a3 w3 hq h3 => ?_
        obtain ⟨rfl, hs3⟩ := hq
        refine fin (p := (0, 0)) ?_ h3 hs3.1 hs3.2.1
        have : i = l.length := by omega
        rw [this, List.drop_length, twiceP] at htw
        rw [ec, ← htw]
      have F2 := F1.step h1.hr h2
      have h2 := R.weak (R.unbase h1.base h2 no_ids0) hs2
      obtain ⟨r, er, hm, hd⟩ := recs_at hlt
      have etake : l.take (i + 1) = l.take i ++ [r] := by
        rw [List.take_add_one, List.getElem?_eq_getElem hlt]
        have h2 : l.drop i = l[i] :: l.drop (i + 1) := List.drop_eq_getElem_cons hlt
        rw [h2] at hd
        injection hd with hd1 hd2
        rw [hd1]; rfl
      rw [hd, twiceP] at htw
      have hsub : ∀ o ∈ fam (l.take i) (famK r.kind), o ∈ l := fun o ho => List.mem_of_mem_take (List.mem_filter.1 ho).1
      have hfl : (fam (l.take i) (famK r.kind)).length ≤ 4096 := by
        have h1 := List.length_filter_le (fun o : Rec => decide (famK o.kind = famK r.kind)) (l.take i)
        have h2 : (l.take i).length ≤ l.length := by rw [List.length_take]; omega
        unfold fam; omega
      refine wp_seq (wp_block (wp_seq (code_sound (C := C.now w2 ι2 S2 []) p13 _ (by show chkC _ C.n _ _ = true; rw [hn]; exact chk_p13) h2.rebase (rn_ok _ (fun _ _ _ h => h) (wa30_13 l (.map (some m)) i r hlt er (fun e σ H => e = .norm ∧ Has σ ((8, .c (.int .i64 i)) :: (9, .ref 768 0) :: s30 l (.map (some m)) i) ∧ H = [(768, robj r)]) fun σ h => ⟨rfl, h, rfl⟩)) fun e ι3 S3 σ3 H3 a3 w3 hq h3 => ?_)))
      obtain ⟨rfl, hs3, rfl⟩ := hq
      have F3 := F2.step h2.hr h3
      have h3 := R.weak (R.unbase h2.base h3 no_ids) hs3
      refine wp_seq (code_sound (C := C.now w3 ι3 S3 [(768, robj r)]) p14 _ (by show chkC _ C.n _ _ = true; rw [hn]; exact chk_p14) h3.rebase (rn_ok _ (fun _ _ _ h => h) (wa30_14 l (.map (some m)) i r (fun e σ H => e = .norm ∧ Has σ (s30a l (.map (some m)) i (famK r.kind)) ∧ H = [(768, robj r)]) fun σ h => ⟨rfl, h, rfl⟩)) fun e ι4 S4 σ4 H4 a4 w4 hq h4 => ?_)
      obtain ⟨rfl, hs4, rfl⟩ := hq
      have F4 := F3.step h3.hr h4
      have h4 := R.weak (R.unbase h3.base h4 no_ids) hs4
      refine wp_seq (wp_seq (reg15 x15_l (by rw [hn]; exact x15_a) (by rw [hn]; exact x15_b) x15_2.1 x15_2.2.1 x15_2.2.2 (by rw [hn, n30]; decide) h4 F4 fun w5 ι5 S5 ι6 S6 a6 w6 e5 hr5 F5 b5 h6 => ?_))
      refine code_sound (C := C.now w5 ι5 S5 (h30b r (fam (l.take i) (famK r.kind)))) p4 _ (by show chkC _ C.n _ _ = true; rw [hn]; exact chk_p4) h6 (rn_ok _ (fun _ _ _ h => h) (wa30_4 l (.map (some m)) i r (fam (l.take i) (famK r.kind)) hfl (hl r hm) (hright r hm) (fun o ho => ⟨hl o (hsub o ho), hright o (hsub o ho)⟩)
        (fun e σ H => (e = .ret ∧ (fam (l.take i) (famK r.kind)).any (fun o => clashP (famK r.kind) o r) = true ∧ Has σ [(2, .c (.int .i64 i)), (3, .c (.int .i64 62))]) ∨ (e = .norm ∧ (fam (l.take i) (famK r.kind)).any (fun o => clashP (famK r.kind) o r) = false ∧ Has σ (s30b l (.map (some m)) i (famK r.kind) (fam (l.take i) (famK r.kind))) ∧ H = [(3000640, .row 8 (recs (fam (l.take i) (famK r.kind)))), (768, robj r)]))
        (fun ha σ H h => .inl ⟨rfl, ha, h⟩) fun ha σ h => .inr ⟨rfl, ha, h, rfl⟩)) fun e ι7 S7 σ7 H7 a7 w7 hq h7 => ?_
      rcases hq with ⟨rfl, ha, hs7⟩ | ⟨rfl, ha, hs7, rfl⟩
      · have h7 := R.drop (l := [(2, .int .i64 i), (3, .int .i64 62)]) h7 hs7
        have h7 := R.unbase b5 h7 no_ids0
        show Q .ret a7 w7
        refine fin (p := (i, 62)) ?_ h7 rfl rfl
        rw [if_pos ha] at htw
        rw [ec, ← htw]
      rw [if_neg (by rw [ha]; simp)] at htw
      have h7 := R.weak h7 hs7
      refine reg21 hO rfl x21_l (by rw [hn]; exact x21_a) (by rw [hn]; exact x21_b) x21_4.1 x21_4.2.1 x21_4.2.2 (by rw [hn, n30]; decide) x21_8.1 x21_8.2.1 x21_8.2.2 hfl e5 hr5 F5 b5 h7 fun ι8 S8 a8 w8 g8 L8 h8 F8 => ?_
      refine code_sound (C := C.now w8 ι8 S8 []) p22 _ (by show chkC _ C.n _ _ = true; rw [hn]; exact chk_p22) h8.rebase (rn_ok _ (fun _ _ _ h => h) (wa30_22 l (.map (some m)) i hlt (by omega) (fun e σ H => e = .norm ∧ Has σ (s30 l (.map (some m)) (i + 1)) ∧ H = []) fun σ h => ⟨rfl, h, rfl⟩)) fun e ι9 S9 σ9 H9 a9 w9 hq h9 => ?_
      obtain ⟨rfl, hs9, rfl⟩ := hq
      have F9 := F8.step h8.hr h9
      have h9 := R.weak (R.unbase h8.base h9 no_ids0) hs9
      rw [← etake] at F9 htw
      exact ih (i + 1) ι9 S9 a9 w9 g8 L8 (by omega) hlt htw h9 F9
  exact main _ 0 ι7 S7 a7 w7 g L (Nat.lt_succ_self _) (Nat.zero_le _) rfl h7 F7
end Go.Proofs.Ytcpdnpaedkcebaa.V
namespace Go.Proofs.Ytcpdnpaedkcebaa.V
open Go Go.RowKit
set_option linter.unusedVariables false
set_option linter.unusedSimpArgs false
set_option maxRecDepth 100000
def isP (k : Value) : Prop := ∃ a b, k = .agg #[.int .i32 a, .int .i32 b]
def plainP (l : List Rec) (c : Int) : Bool := match hit l 1 c with | some r => decide (r.kind = 1) | none => false
def abc : ByteArray := ⟨#[97, 98, 99, 100, 101, 102, 103, 104, 105, 106, 107, 108, 109, 110, 111, 112, 113, 114, 115, 116, 117, 118, 119, 120, 121, 122]⟩
def digits : ByteArray := ⟨#[48, 49, 50, 51, 52, 53, 54, 55, 56, 57, 45, 46]⟩
def hB (r : Rec) (a b : Int) : LH := [(704, robj r), (1408, .obj [.c (.int .i32 a), .c (.int .i32 b)])]
def hS : LH := [(1472, .row 1 [.str abc, .str digits])]
end Go.Proofs.Ytcpdnpaedkcebaa.V
namespace Go.Proofs.Ytcpdnpaedkcebaa.V
open Go Go.RowKit
set_option linter.unusedVariables false
set_option linter.unusedSimpArgs false
def Rec.right (r : Rec) : Prop := r.ok ∧ rightR r = 0
theorem right_parts {r : Rec} (h : r.right) : famK r.kind ≠ 0 ∧ (r.kind = 15 → r.lo = 0 ∧ r.hi = 0) ∧ (r.kind ≠ 15 → 0 ≤ r.lo ∧ r.lo ≤ r.hi ∧ r.hi ≤ 1114111) ∧ fitsR r = true := by
  obtain ⟨hok, hr⟩ := h
  unfold rightR at hr
  by_cases hf : famK r.kind = 0
  · rw [if_pos hf] at hr; omega
  rw [if_neg hf] at hr
  by_cases hc : (if r.kind = 15 then r.lo = 0 ∧ r.hi = 0 else 0 ≤ r.lo ∧ r.lo ≤ r.hi ∧ r.hi ≤ 1114111) ∧ fitsR r = true
  · obtain ⟨h1, h2⟩ := hc
    refine ⟨hf, fun hk => ?_, fun hk => ?_, h2⟩
    · rw [if_pos hk] at h1; exact h1
    · rw [if_neg hk] at h1; exact h1
  · rw [if_neg hc] at hr; omega
theorem right_shift {r : Rec} (h : r.right) (hk : r.kind = 4) : 1 ≤ r.n ∧ r.n ≤ 64 := by
  have hf := (right_parts h).2.2.2
  unfold fitsR at hf
  simp only [hk] at hf
  simp only [Bool.and_eq_true, show ¬((4 : Int) = 3) by decide, if_false, if_true] at hf
  have h2 := hf.2
  unfold shiftsR at h2
  split at h2
  · simp only [Bool.and_eq_true, decide_eq_true_eq] at h2
    exact ⟨h2.1.1.1.1, h2.1.1.1.2⟩
  · cases h2
theorem right_span {r : Rec} (h : r.right) (hk : r.kind ≠ 15) : r.span := by
  obtain ⟨h1, h2, h3⟩ := (right_parts h).2.2.1 hk
  refine ⟨h.1, hk, h1, h2, h3, ?_, ?_⟩
  · unfold st
    split
    · rename_i h4; exact (right_shift h h4).1
    · omega
  · unfold st
    split
    · rename_i h4; exact (right_shift h h4).2
    · omega
theorem fam_ten {k : Int} : famK k = 10 ↔ k = 15 := by unfold famK; (repeat' split) <;> omega
theorem fam_le (k : Int) : famK k ≤ 10 := by unfold famK; (repeat' split) <;> omega
theorem clash_eq {o r : Rec} (ho : o.right) (hr : r.right) : (decide (famK o.kind = famK r.kind) && clashP (famK r.kind) o r) = clashF o r := by
  by_cases hf : famK o.kind = famK r.kind
  · by_cases hk : r.kind = 15
    · have hok : o.kind = 15 := fam_ten.1 (by rw [hf]; exact fam_ten.2 hk)
      unfold clashP clashF
      rw [hk, hok]
      simp [famK]
    · have hok : o.kind ≠ 15 := fun h => hk (fam_ten.1 (by rw [← hf]; exact fam_ten.2 h))
      have hlt : famK r.kind < 10 := by
        have h1 := fam_le r.kind
        have h2 := mt fam_ten.1 hk
        omega
      have h1 : clashP (famK r.kind) o r = meetR o r := by
        unfold clashP
        rw [decide_eq_true hlt, decide_eq_false (by omega)]
        simp
      rw [h1, decide_eq_true hf, Bool.true_and, Bool.eq_iff_iff, meetR_iff (right_span ho hok) (right_span hr hk), clashF_iff (right_span ho hok) (right_span hr hk) hf]
  · unfold clashF
    rw [decide_eq_false hf, if_pos hf]
    rfl
def Rec.wok (r : Rec) : Prop := r.weight < 18446744073709551616
theorem rights_eq : ∀ (l : List Rec) (i : Int), (∀ r ∈ l, r.ok) → (∀ r ∈ l, r.wok) → rightsP l i = rightsF l i
  | [], _, _, _ => rfl
  | r :: l, i, h, hw => by
    rw [rightsP, rightsF, right_eq (h r (List.mem_cons_self ..)) (hw r (List.mem_cons_self ..)), rights_eq l (i + 1) (fun x hx => h x (List.mem_cons_of_mem _ hx)) (fun x hx => hw x (List.mem_cons_of_mem _ hx))]
theorem rights_none : ∀ {l : List Rec} {i : Int}, (∀ r ∈ l, r.ok) → rightsP l i = none → ∀ r ∈ l, r.right
  | r :: l, i, h, hn, x, hx => by
    rw [rightsP] at hn
    by_cases hr : rightR r ≠ 0
    · rw [if_pos hr] at hn; cases hn
    · rw [if_neg hr] at hn
      rcases List.mem_cons.1 hx with rfl | hx
      · exact ⟨h x (List.mem_cons_self ..), Decidable.of_not_not hr⟩
      · exact rights_none (fun y hy => h y (List.mem_cons_of_mem _ hy)) hn x hx
theorem any_fam {p : List Rec} {r : Rec} (hp : ∀ o ∈ p, o.right) (hr : r.right) : (fam p (famK r.kind)).any (fun o => clashP (famK r.kind) o r) = p.any (fun o => clashF o r) := by
  unfold fam
  rw [List.any_filter, Bool.eq_iff_iff]
  simp only [List.any_eq_true]
  constructor
  · rintro ⟨o, ho, h⟩; exact ⟨o, ho, (clash_eq (hp o ho) hr) ▸ h⟩
  · rintro ⟨o, ho, h⟩; exact ⟨o, ho, (clash_eq (hp o ho) hr).symm ▸ h⟩
theorem twice_eq (l : List Rec) : ∀ (s p : List Rec) (i : Int), (∀ o ∈ p, o.right) → (∀ o ∈ s, o.right) → twiceP p s i = twiceF l p s i
  | [], _, _, _, _ => rfl
  | r :: s, p, i, hp, hs => by
    have hr := hs r (List.mem_cons_self ..)
    have hs' : ∀ o ∈ s, o.right := fun x hx => hs x (List.mem_cons_of_mem _ hx)
    have hp' : ∀ o ∈ p ++ [r], o.right := fun x hx => by
      rcases List.mem_append.1 hx with h | h
      · exact hp x h
      · rw [List.mem_singleton.1 h]; exact hr
    rw [twiceP, twiceF, any_fam hp hr, twice_eq l s (p ++ [r]) (i + 1) hp' hs']
theorem check_eq {l : List Rec} (h : ∀ r ∈ l, r.ok) (hw : ∀ r ∈ l, r.wok) : checkP l = checkF l := by
  unfold checkP checkF
  rw [← rights_eq l 0 h hw]
  split
  · rfl
  cases hr : rightsP l 0 with
  | some x => rfl
  | none =>
    rw [twice_eq l l [] 0 (by simp) (rights_none h hr)] <;> rfl
theorem check_right {l : List Rec} (h : ∀ r ∈ l, r.ok) (hc : (checkP l).2 = 0) : ∀ r ∈ l, r.right := by
  unfold checkP at hc
  split at hc
  · simp at hc
  · cases hr : rightsP l 0 with
    | none => exact rights_none h hr
    | some x =>
      exfalso
      rw [hr] at hc
      simp only at hc
      have : ∀ (l : List Rec) (i : Int) (x : Int × Int), rightsP l i = some x → x.2 ≠ 0 := by
        intro l
        induction l with
        | nil => intro i x h; simp [rightsP] at h
        | cons r l ih =>
          intro i x h
          rw [rightsP] at h
          split at h
          · rename_i h2; cases h; exact h2
          · exact ih _ _ h
      exact this l 0 x hr hc
end Go.Proofs.Ytcpdnpaedkcebaa.V
namespace Go.Proofs.Ytcpdnpaedkcebaa.V
open Go Go.RowKit
set_option linter.unusedVariables false
set_option linter.unusedSimpArgs false
set_option maxRecDepth 100000
def ep0 : IC := (.reg [⟨(some 2), 0, none, .mv (.c .nilsl)⟩,
  ⟨(some 3), 0, none, .mv (.c (.int .i64 0))⟩,
  ⟨(some 4), 0, none, .mv (.c (.int .i64 0))⟩])
theorem chk_ep0 : chkC Try.prog Try.f32.ntmps ep0 (seqA (codeOf Try.f32)) = true := by decide +kernel
def ep1 : IC := (.seq (.reg [⟨(some 13), 0, none, .mv (.t 0)⟩,
  ⟨(some 14), 1, none, .call (.c (.fn 30)) [((.t 13), .view 8)]⟩,
  ⟨(some 12), 0, none, .mv (.t 14)⟩,
  ⟨(some 15), 0, none, .ext (.t 12) 0⟩,
  ⟨(some 16), 0, none, .ext (.t 12) 1⟩,
  ⟨(some 5), 0, none, .mv (.t 15)⟩,
  ⟨(some 6), 0, none, .mv (.t 16)⟩]) (.seq (.reg [⟨(some 17), 0, none, .mv (.t 6)⟩,
  ⟨(some 18), 0, none, .bin .neq (.t 17) (.c (.int .i64 0))⟩]) (.cond (.t 18) (.seq (.reg [⟨(some 19), 0, none, .mv (.t 5)⟩,
  ⟨(some 20), 0, none, .mv (.t 6)⟩,
  ⟨(some 2), 0, none, .mv (.c .nilsl)⟩,
  ⟨(some 3), 0, none, .mv (.t 19)⟩,
  ⟨(some 4), 0, none, .mv (.t 20)⟩]) .ret) .skip)))
theorem chk_ep1 : chkC Try.prog Try.f32.ntmps ep1 (seqA (seqB (codeOf Try.f32))) = true := by decide +kernel
def l32_1 : IC := (.seq (.reg [⟨(some 47), 0, none, .bin .lss (.t 46) (.t 45)⟩]) (.seq (.cond (.t 47) .skip (.exit 2)) (.seq (.block 3 (.seq (.reg [⟨(some 48), 0, none, .ia (.t 44) (.t 46) 2⟩,
  ⟨(some 49), 0, none, .ld (.t 48) (some 2)⟩,
  ⟨(some 11), 25, none, .alloc [.nilfn, .nilfn]⟩,
  ⟨none, 0, none, .st (.t 11) (.t 49) (some 2)⟩]) (.reg [⟨(some 50), 0, none, .mv (.t 7)⟩,
  ⟨(some 51), 0, none, .fa (.t 11) 0⟩,
  ⟨(some 52), 0, none, .ld (.t 51) none⟩,
  ⟨(some 53), 0, none, .ld (.t 9) (some 8)⟩,
  ⟨(some 54), 26, none, .call (.t 52) [((.t 53), .plain)]⟩,
  ⟨(some 55), 36, none, .app (.t 50) (.t 54) 1 1 false⟩,
  ⟨(some 7), 0, none, .mv (.t 55)⟩]))) (.reg [⟨(some 56), 0, none, .bin .add (.t 46) (.c (.int .i64 1))⟩,
  ⟨(some 46), 0, none, .mv (.t 56)⟩]))))
def n32_1 : Norm := ⟨[(7, .own 1 1000007), (9, .plain), (30, .plain), (31, .plain), (32, .plain), (44, .own 2 1000044), (45, .plain), (46, .plain)], [(768, [.plain, .plain, .plain, .plain, .plain, .plain, .plain, .plain])]⟩
def l32_0 : IC := (.seq (.reg [⟨(some 33), 0, none, .bin .lss (.t 32) (.t 31)⟩]) (.seq (.cond (.t 33) .skip (.exit 0)) (.seq (.block 1 (.seq (.reg [⟨(some 34), 0, none, .ia (.t 30) (.t 32) 8⟩,
  ⟨(some 35), 0, none, .ld (.t 34) (some 8)⟩,
  ⟨(some 9), 12, none, .alloc [(.int .i64 0), (.int .i64 0), (.int .i64 0), (.int .i64 0), .nilsl, (.str ⟨#[]⟩), (.str ⟨#[]⟩), (.flt 0)]⟩,
  ⟨none, 0, none, .st (.t 9) (.t 35) (some 8)⟩]) (.seq (.reg [⟨(some 36), 0, none, .mv (.t 7)⟩,
  ⟨(some 37), 0, none, .fa (.t 9) 0⟩,
  ⟨(some 38), 0, none, .ld (.t 37) none⟩,
  ⟨(some 39), 0, none, .conv .u8 (.t 38)⟩,
  ⟨(some 40), 13, none, .bsl 1 [(.t 39)]⟩,
  ⟨(some 41), 14, none, .app (.t 36) (.t 40) 1 1 false⟩,
  ⟨(some 7), 0, none, .mv (.t 41)⟩]) (.seq (.seq (.reg [⟨(some 42), 0, none, .fa (.t 9) 0⟩,
  ⟨(some 43), 0, none, .ld (.t 42) none⟩,
  ⟨(some 44), 15, none, .call (.c (.fn 57)) [((.t 43), .plain)]⟩,
  ⟨(some 45), 0, none, .len false (.t 44)⟩,
  ⟨(some 46), 0, none, .mv (.c (.int .i64 0))⟩]) (.block 2 (.loop n32_1 l32_1))) (.seq (.reg [⟨(some 57), 0, none, .mv (.t 7)⟩,
  ⟨(some 58), 0, none, .len false (.t 57)⟩,
  ⟨(some 59), 0, none, .bin .gtr (.t 58) (.c (.int .i64 262144))⟩]) (.cond (.t 59) (.seq (.reg [⟨(some 2), 0, none, .mv (.c .nilsl)⟩,
  ⟨(some 3), 0, none, .mv (.c (.int .i64 0))⟩,
  ⟨(some 4), 0, none, .mv (.c (.int .i64 2))⟩]) .ret) .skip)))))) (.reg [⟨(some 60), 0, none, .bin .add (.t 32) (.c (.int .i64 1))⟩,
  ⟨(some 32), 0, none, .mv (.t 60)⟩]))))
def n32_0 : Norm := ⟨[(7, .own 1 1000007), (30, .plain), (31, .plain), (32, .plain)], []⟩
def ep2 : IC := (.seq (.reg [⟨(some 25), 0, none, .mv (.t 7)⟩,
  ⟨(some 26), 0, none, .mv (.t 0)⟩,
  ⟨(some 27), 0, none, .len false (.t 26)⟩,
  ⟨(some 28), 1, none, .call (.c (.fn 56)) [((.t 27), .plain)]⟩,
  ⟨(some 29), 11, none, .app (.t 25) (.t 28) 1 1 false⟩,
  ⟨(some 7), 0, none, .mv (.t 29)⟩]) (.seq (.seq (.reg [⟨(some 30), 0, none, .mv (.t 0)⟩,
  ⟨(some 31), 0, none, .len false (.t 30)⟩,
  ⟨(some 32), 0, none, .mv (.c (.int .i64 0))⟩]) (.block 0 (.loop n32_0 l32_0))) (.seq (.reg [⟨(some 61), 0, none, .mv (.t 7)⟩,
  ⟨(some 62), 0, none, .mv (.t 7)⟩,
  ⟨(some 63), 37, none, .call (.c (.fn 58)) [((.t 62), .view 1)]⟩,
  ⟨(some 64), 47, none, .app (.t 61) (.t 63) 1 1 false⟩,
  ⟨(some 7), 0, none, .mv (.t 64)⟩]) (.seq (.seq (.reg [⟨(some 65), 0, none, .mv (.t 7)⟩,
  ⟨(some 66), 0, none, .len false (.t 65)⟩,
  ⟨(some 67), 0, none, .bin .gtr (.t 66) (.c (.int .i64 262144))⟩]) (.cond (.t 67) (.seq (.reg [⟨(some 2), 0, none, .mv (.c .nilsl)⟩,
  ⟨(some 3), 0, none, .mv (.c (.int .i64 0))⟩,
  ⟨(some 4), 0, none, .mv (.c (.int .i64 2))⟩]) .ret) .skip)) (.seq (.reg [⟨(some 68), 0, none, .mv (.t 7)⟩,
  ⟨(some 2), 0, none, .mv (.t 68)⟩,
  ⟨(some 3), 0, none, .mv (.c (.int .i64 0))⟩,
  ⟨(some 4), 0, none, .mv (.c (.int .i64 0))⟩]) .ret)))))
theorem chk_ep2 : chkC Try.prog Try.f32.ntmps ep2 (seqB (seqB (seqB (codeOf Try.f32)))) = true := by decide +kernel
def writeF (f : Nat) (r : Rec) : List UInt8 :=
  if f = 81 then uintP r.lo else if f = 84 then uintP (IntKind.i64.wrap (r.hi - r.lo)) else if f = 86 then uintP r.n else if f = 88 then uintP (r.to.getD 0 0) else
  if f = 90 then toL r.to else if f = 92 then textL r.name else if f = 96 then textL r.other else floatL r.weight
theorem right_to {r : Rec} (h : r.right) : r.to.length ≤ 24 := by
  have hf := (right_parts h).2.2.2
  have none_to : ∀ {n m w : Bool}, noneR n true m w r = true → r.to.length ≤ 24 := by
    intro n m w hn
    unfold noneR at hn
    split at hn
    · cases hn
    · rename_i hc
      have : ¬(0 : Int) < r.to.length := fun h => hc (.inr ⟨rfl, h⟩)
      omega
  have snd_to : ∀ {a b : Int}, b ≤ 24 → soundR r a b = true → r.to.length ≤ 24 := by
    intro a b hb hn
    unfold soundR at hn
    simp only [Bool.and_eq_true, decide_eq_true_eq] at hn
    omega
  unfold fitsR at hf
  by_cases h3 : r.kind = 3
  · rw [if_pos h3] at hf; simp only [Bool.and_eq_true] at hf; exact snd_to (by decide) hf.2
  rw [if_neg h3] at hf
  by_cases h4 : r.kind = 4
  · rw [if_pos h4] at hf; simp only [Bool.and_eq_true] at hf
    have h2 := hf.2
    unfold shiftsR at h2
    split at h2
    · rename_i hto; rw [hto]; simp
    · cases h2
  rw [if_neg h4] at hf
  by_cases h5 : r.kind = 5
  · rw [if_pos h5] at hf; simp only [Bool.and_eq_true] at hf; exact snd_to (by decide) hf.2
  rw [if_neg h5] at hf
  by_cases h6 : r.kind = 6
  · rw [if_pos h6] at hf; simp only [Bool.and_eq_true] at hf; exact none_to hf.1
  rw [if_neg h6] at hf
  by_cases h7 : r.kind = 7
  · rw [if_pos h7] at hf; simp only [Bool.and_eq_true] at hf; exact snd_to (by decide) hf.2
  rw [if_neg h7] at hf
  by_cases h8 : r.kind = 8
  · rw [if_pos h8] at hf; simp only [Bool.and_eq_true] at hf; exact snd_to (by decide) hf.2
  rw [if_neg h8] at hf
  by_cases h9 : r.kind = 9
  · rw [if_pos h9] at hf; simp only [Bool.and_eq_true] at hf; exact none_to hf.1
  rw [if_neg h9] at hf
  by_cases h10 : r.kind = 10
  · rw [if_pos h10] at hf; simp only [Bool.and_eq_true] at hf; exact none_to hf.1
  rw [if_neg h10] at hf
  by_cases h12 : r.kind = 12
  · rw [if_pos h12] at hf; simp only [Bool.and_eq_true] at hf; exact none_to hf.1
  rw [if_neg h12] at hf
  by_cases h13 : r.kind = 13
  · rw [if_pos h13] at hf; simp only [Bool.and_eq_true] at hf; exact snd_to (by decide) hf.2
  rw [if_neg h13] at hf
  by_cases h14 : r.kind = 14
  · rw [if_pos h14] at hf; simp only [Bool.and_eq_true] at hf; exact none_to hf.1
  rw [if_neg h14] at hf
  by_cases h15 : r.kind = 15
  · rw [if_pos h15] at hf; simp only [Bool.and_eq_true] at hf; exact none_to hf.1.1.1.1
  rw [if_neg h15] at hf
  exact none_to hf
theorem name_four {s : ByteArray} (h : nameS s = true) : s.size = 4 := by
  unfold nameS at h
  simp only [Bool.and_eq_true, decide_eq_true_eq] at h
  exact h.1.1.1
theorem right_one4 {r : Rec} (h : r.right) (hk : r.kind = 4) : ∃ a, r.to = [a] := by
  have hf := (right_parts h).2.2.2
  unfold fitsR at hf
  rw [if_neg (by omega), if_pos hk] at hf
  simp only [Bool.and_eq_true] at hf
  have h2 := hf.2
  unfold shiftsR at h2
  split at h2
  · rename_i a hto; exact ⟨a, hto⟩
  · cases h2
theorem right_name {r : Rec} (h : r.right) (hk : r.kind = 12 ∨ r.kind = 15) : r.name.size = 4 := by
  have hf := (right_parts h).2.2.2
  unfold fitsR at hf
  rcases hk with hk | hk
  · simp only [hk] at hf; simp at hf; exact name_four hf.2
  · simp only [hk] at hf; simp at hf; exact name_four hf.1.1.1.2
theorem right_other {r : Rec} (h : r.right) (hk : r.kind = 15) : r.other.size = 4 := by
  have hf := (right_parts h).2.2.2
  unfold fitsR at hf
  simp only [hk] at hf; simp at hf; exact name_four hf.1.1.2
theorem parts8_88 {k : Int} (h : (88, 89) ∈ parts8 k) : k = 4 := by
  unfold parts8 at h
  (repeat' split at h) <;> simp at h <;> grind
theorem parts8_92 {k : Int} (h : (92, 94) ∈ parts8 k) : k = 12 ∨ k = 15 := by
  unfold parts8 at h
  (repeat' split at h) <;> simp at h <;> grind
theorem parts8_96 {k : Int} (h : (96, 97) ∈ parts8 k) : k = 15 := by
  unfold parts8 at h
  (repeat' split at h) <;> simp at h <;> grind
theorem cwWrite {r : Rec} (hr : r.right) (hw : r.wok) {p : Nat × Nat} (h : p ∈ parts8 r.kind) : CW Try.prog p.1 [.cv r.cv] ⟨[.own 1 (bys (writeF p.1 r))], []⟩ ∧ (writeF p.1 r).length ≤ 300 := by
  have hto := right_to hr
  have hok := hr.1
  have u9 : ∀ n : Int, n < 9223372036854775808 → (uintP n).length ≤ 300 := fun n hn => Nat.le_trans (uintP_9 hn) (by decide)
  have ts : ∀ s : ByteArray, s.size = 4 → (textL s).length ≤ 300 := fun s hs => by
    unfold textL
    have := uintL_9 (n := s.size) (by omega)
    rw [List.length_append, size_len]; omega
  rcases parts8_mem h with e | e | e | e | e | e | e | e <;> subst e
  · exact ⟨cw81 r hok, u9 _ hok.2.1.2⟩
  · exact ⟨cw84 r hok, u9 _ (wrap_ok _).2⟩
  · exact ⟨cw86 r hok, u9 _ hok.2.2.2.1.2⟩
  · obtain ⟨a, ha⟩ := right_one4 hr (parts8_88 h)
    have hc : i32ok a := hok.2.2.2.2 a (by rw [ha]; exact List.mem_singleton.2 rfl)
    have e : writeF 88 r = uintP a := by show uintP (r.to.getD 0 0) = _; rw [ha]; rfl
    rw [e]
    exact ⟨cw88 r hok a ha, u9 _ (by unfold i32ok at hc; omega)⟩
  · refine ⟨cw90 r hok (by omega), ?_⟩
    show (toL r.to).length ≤ 300
    unfold toL
    have h1 := uints_len r.to hok.2.2.2.2
    have h2 := uintP_9 (n := r.to.length) (by omega)
    rw [List.length_append]; omega
  · have h4 := right_name hr (parts8_92 h)
    exact ⟨cw92 r (by omega), ts _ h4⟩
  · have h4 := right_other hr (parts8_96 h)
    exact ⟨cw96 r (by omega), ts _ h4⟩
  · exact ⟨cw98 r hw, by show (floatL r.weight).length ≤ 300; rw [floatL_len]; decide⟩
def recL (r : Rec) : List UInt8 := by8 r.kind :: (parts8 r.kind).flatMap fun p => writeF p.1 r
def packH (n : Nat) : List UInt8 := [101, 110, 100, 111, 1] ++ uintL n
def packB (l : List Rec) : List UInt8 := (packH l.length ++ l.flatMap recL) ++ sum4 (sumW (packH l.length ++ l.flatMap recL))
def packF (l : List Rec) : List UInt8 × Int × Int :=
  if (checkP l).2 ≠ 0 then ([], checkP l) else if 262144 < (packB l).length then ([], 0, 2) else (packB l, 0, 0)
end Go.Proofs.Ytcpdnpaedkcebaa.V
namespace Go.Proofs.Ytcpdnpaedkcebaa.V
open Go Go.RowKit
set_option linter.unusedVariables false
set_option linter.unusedSimpArgs false
set_option maxRecDepth 100000
def h32 : LH := [(576000, .dead), (576064, .row 1 (bys [1])), (576128, .row 1 (bys [101, 110, 100, 111, 1]))]
theorem flat_len (l : List (Nat × Nat)) (r : Rec) (h : ∀ p ∈ l, (writeF p.1 r).length ≤ 300) : (l.flatMap fun p => writeF p.1 r).length ≤ 300 * l.length := by
  induction l with
  | nil => simp
  | cons p l ih =>
    have h1 := h p List.mem_cons_self
    have h2 := ih fun x hx => h x (List.mem_cons_of_mem _ hx)
    simp only [List.flatMap_cons, List.length_append, List.length_cons]
    omega
theorem parts8_len (k : Int) : (parts8 k).length ≤ 4 := by unfold parts8; (repeat' split) <;> simp
theorem recL_len {r : Rec} (hr : r.right) (hw : r.wok) : (recL r).length ≤ 1201 := by
  unfold recL
  have := flat_len (parts8 r.kind) r fun p hp => (cwWrite hr hw hp).2
  have := parts8_len r.kind
  simp only [List.length_cons]
  omega
theorem w32r (l : List Rec) (hn : l.length ≤ 4096) (hr : ∀ r ∈ l, r.right) (hw : ∀ r ∈ l, r.wok) (Q : Ex → Slots → LH → Prop)
    (hQ : ∀ σ H, OwnAt 1 (bys (if 262144 < (packB l).length then ([], 0, 2) else (packB l, 0, 0) : List UInt8 × Int × Int).1) (Slots.get σ 2) H → Slots.get σ 3 = .c (.int .i64 (if 262144 < (packB l).length then ([], 0, 2) else (packB l, 0, 0) : List UInt8 × Int × Int).2.1) →
      Slots.get σ 4 = .c (.int .i64 (if 262144 < (packB l).length then ([], 0, 2) else (packB l, 0, 0) : List UInt8 × Int × Int).2.2) → Q .ret σ H) :
    rnC Try.prog ep2 Q [(0, .c (.sl 8 (recs l))), (7, .osl 576128 0 5)] h32 := by
  have u9 := uintP_9 (n := (l.length : Int)) (by omega)
  unfold ep2 h32
  simp only [go_sem, ↓reduceIte, Nat.reduceEqDiff, Nat.reduceMul, Nat.reduceAdd, Nat.reduceDiv, Nat.reduceSub, Nat.reduceLT, Nat.reduceLeDiff, Int.reduceLE, Int.reduceLT, Int.reduceToNat, Int.reduceEq]
  refine callK_O 1 (bys (uintP (l.length : Int))) (fun _ => cw56 (l.length : Int) (by omega)) (by simp only [go_sem, ↓reduceIte, Nat.reduceEqDiff, Nat.reduceMul, Nat.reduceAdd, Nat.reduceDiv, Nat.reduceSub, Nat.reduceLT, Nat.reduceLeDiff, Int.reduceLE, Int.reduceLT, Int.reduceToNat, Int.reduceEq]) rfl rfl ?_
  simp only [go_sem, ↓reduceIte, Nat.reduceEqDiff, Nat.reduceMul, Nat.reduceAdd, Nat.reduceDiv, Nat.reduceSub, Nat.reduceLT, Nat.reduceLeDiff, Int.reduceLE, Int.reduceLT, Int.reduceToNat, Int.reduceEq]
  repeat (refine ⟨by (first | omega | (intro h1 h2; exact ⟨h1, h2⟩) | (intro h1; omega) | (intro h1; exact h1) | trivial), ?_⟩)
  have ht5 : List.take 5 (bys [101, 110, 100, 111, 1]) = bys [101, 110, 100, 111, 1] := rfl
  rw [bys_take, ht5, bys_len, bys_app, uintP_nat]
  have u9' := uintL_9 (n := l.length) (by omega)
  have e0 : [101, 110, 100, 111, 1] ++ uintL l.length = packH l.length := rfl
  have e00 : 5 + (uintL l.length).length = (packH l.length).length := by unfold packH; rw [List.length_append]; rfl
  rw [e0, e00]
  refine ⟨by omega, ?_⟩
  generalize hB : (fun i : Nat => packH l.length ++ (l.take i).flatMap recL) = B
  have hB0 : B 0 = packH l.length := by rw [← hB]; simp
  have hBl : (B 0).length ≤ 262144 := by rw [hB0, ← e00]; omega
  have hBm : ∀ i, (B i).length ≤ (packB l).length := fun i => by
    have h1 : ((l.take i).flatMap recL).length ≤ (l.flatMap recL).length := by
      conv => rhs; rw [← List.take_append_drop i l]
      rw [List.flatMap_append, List.length_append]; exact Nat.le_add_right _ _
    rw [← hB]
    unfold packB
    simp only [List.length_append]
    omega
  rw [← hB0]
  refine loopR.by (α := Nat) (fun i => [(7, .osl 1000007 0 (B i).length), (30, .c (.sl 8 (recs l))), (31, .c (.int .i64 l.length)), (32, .c (.int .i64 i))]) (fun i => [(1000007, .row 1 (bys (B i)))]) (fun i => l.length - i) (fun i => i ≤ l.length ∧ (B i).length ≤ 262144) 0 ⟨Nat.zero_le _, hBl⟩ ?_ ?_
  · intro Y hY
    simp only [go_sem, ↓reduceIte, Nat.reduceEqDiff, Nat.reduceMul, Nat.reduceAdd, Nat.reduceDiv, Nat.reduceSub, Nat.reduceLT, Nat.reduceLeDiff, Int.reduceLE, Int.reduceLT, Int.reduceToNat, Int.reduceEq, n32_0]
    first | exact hY | exact ⟨by simp, hY⟩
  intro i hi Y hY
  obtain ⟨hi, hlen⟩ := hi
  unfold l32_0
  rcases Nat.lt_or_ge i l.length with hlt | hge
  · obtain ⟨r, e, hm, hd⟩ := recs_at hlt
    have hrr := hr r hm
    have hwr := hw r hm
    have hL8 := recL_len hrr hwr
    have hB1 : B (i + 1) = B i ++ recL r := by
      have : l[i]? = some r := by rw [← List.head?_drop, hd]; rfl
      rw [← hB]
      simp only [List.take_add_one, this, Option.toList_some, List.flatMap_append, List.flatMap_cons, List.flatMap_nil, List.append_nil, List.append_assoc]
    have hY' := hY (i + 1)
    have hBm' := hBm (i + 1)
    rw [hB1] at hY' hBm'
    generalize hW : B i = W at *
    clear hW hY
    simp only [go_sem, ↓reduceIte, Nat.reduceEqDiff, Nat.reduceMul, Nat.reduceAdd, Nat.reduceDiv, Nat.reduceSub, Nat.reduceLT, Nat.reduceLeDiff, Int.reduceLE, Int.reduceLT, Int.reduceToNat, Int.reduceEq, n32_0, e]
    refine ⟨fun _ => ⟨by omega, by omega, ?_⟩, fun h => by omega⟩
    rw [bys_take, by8_cv]
    have hfl : (fcv (parts8 r.kind)).length = (parts8 r.kind).length := by simp [fcv]
    refine callK_O 2 (fcv (parts8 r.kind)) (fun _ => cw57 r.kind) (by simp only [go_sem, ↓reduceIte, Nat.reduceEqDiff, Nat.reduceMul, Nat.reduceAdd, Nat.reduceDiv, Nat.reduceSub, Nat.reduceLT, Nat.reduceLeDiff, Int.reduceLE, Int.reduceLT, Int.reduceToNat, Int.reduceEq]) rfl rfl ?_
    simp only [go_sem, ↓reduceIte, Nat.reduceEqDiff, Nat.reduceMul, Nat.reduceAdd, Nat.reduceDiv, Nat.reduceSub, Nat.reduceLT, Nat.reduceLeDiff, Int.reduceLE, Int.reduceLT, Int.reduceToNat, Int.reduceEq]
    repeat (refine ⟨by (first | omega | (intro h1 h2; exact ⟨h1, h2⟩) | (intro h1; omega) | (intro h1; exact h1) | trivial), ?_⟩)
    have hall := fun p hp => cwWrite hrr hwr (p := p) hp
    have hk8 := parts8_len r.kind
    have hrec : recL r = by8 r.kind :: (parts8 r.kind).flatMap fun p => writeF p.1 r := rfl
    rw [hfl, bys_one, bys_app]
    generalize hL : parts8 r.kind = L at *
    generalize hC : (fun j : Nat => (W ++ [by8 r.kind]) ++ (L.take j).flatMap fun p => writeF p.1 r) = C
    have hC0 : C 0 = W ++ [by8 r.kind] := by rw [← hC]; simp
    have hCn : C L.length = W ++ recL r := by rw [← hC, hrec]; simp
    have hCl : ∀ j, (C j).length ≤ 263400 := fun j => by
      rw [← hC]
      have h1 := flat_len (L.take j) r fun p hp => (hall p (List.mem_of_mem_take hp)).2
      have h2 : (L.take j).length ≤ 4 := by rw [List.length_take]; omega
      simp only [List.length_append, List.length_singleton]
      omega
    have e1 : W.length + 1 = (C 0).length := by rw [hC0]; simp
    have hCs : ∀ j (h : j < L.length), C (j + 1) = C j ++ writeF L[j].1 r := fun j h => by
      rw [← hC]
      simp only [List.take_add_one, List.getElem?_eq_getElem h, Option.toList_some, List.flatMap_append, List.flatMap_cons, List.flatMap_nil, List.append_nil, List.append_assoc]
    rw [← hC0, e1]
    clear hC hC0 e1 hrec
    refine loopR.by (α := Nat) (fun j => [(7, .osl 1000007 0 (C j).length), (9, .ref 768 0), (30, .c (.sl 8 (recs l))), (31, .c (.int .i64 l.length)), (32, .c (.int .i64 i)), (44, .osl 1000044 0 L.length), (45, .c (.int .i64 L.length)), (46, .c (.int .i64 j))])
      (fun j => [(1000007, .row 1 (bys (C j))), (1000044, .row 2 (fcv L)), (768, robj r)]) (fun j => L.length - j) (fun j => j ≤ L.length) 0 (Nat.zero_le _) ?_ ?_
    · intro Z hZ
      simp only [go_sem, ↓reduceIte, Nat.reduceEqDiff, Nat.reduceMul, Nat.reduceAdd, Nat.reduceDiv, Nat.reduceSub, Nat.reduceLT, Nat.reduceLeDiff, Int.reduceLE, Int.reduceLT, Int.reduceToNat, Int.reduceEq, n32_1, hfl]
      exact ⟨by simp, hZ⟩
    intro j hj Z hZ
    unfold l32_1 robj
    rcases Nat.lt_or_ge j L.length with hjl | hjg
    · have ee : (fcv L).getD j .undef = .agg [.fn L[j].1, .fn L[j].2] := by simp [fcv, List.getD_eq_getElem?_getD, hjl]
      have hcall := hall L[j] (List.getElem_mem hjl)
      have hs := hCs j hjl
      have hZ' := hZ (j + 1) (by omega) (by omega)
      rw [hs] at hZ'
      have hl0 := hCl j
      generalize L[j] = p at ee hcall hZ'
      simp only [go_sem, ↓reduceIte, Nat.reduceEqDiff, Nat.reduceMul, Nat.reduceAdd, Nat.reduceDiv, Nat.reduceSub, Nat.reduceLT, Nat.reduceLeDiff, Int.reduceLE, Int.reduceLT, Int.reduceToNat, Int.reduceEq, n32_1, ee, hfl]
      refine ⟨fun _ => ⟨by omega, ?_⟩, fun h => by omega⟩
      refine callK_O 1 (bys (writeF p.1 r)) (fun _ => hcall.1) (by simp only [go_sem, ↓reduceIte, Nat.reduceEqDiff, Nat.reduceMul, Nat.reduceAdd, Nat.reduceDiv, Nat.reduceSub, Nat.reduceLT, Nat.reduceLeDiff, Int.reduceLE, Int.reduceLT, Int.reduceToNat, Int.reduceEq]) rfl rfl ?_
      simp only [go_sem, ↓reduceIte, Nat.reduceEqDiff, Nat.reduceMul, Nat.reduceAdd, Nat.reduceDiv, Nat.reduceSub, Nat.reduceLT, Nat.reduceLeDiff, Int.reduceLE, Int.reduceLT, Int.reduceToNat, Int.reduceEq, hfl]
      have := hcall.2
      rw [bys_take, bys_take, bys_app, succ64 hjl (by omega)]
      simp only [bys_len]
      rw [List.length_append] at hZ'
      exact ⟨by omega, ⟨trivial, by simp⟩, hZ'⟩
    · have : j = L.length := by omega
      subst this
      have ee : (fcv L).getD L.length .undef = .undef := by
        rw [List.getD_eq_getElem?_getD, List.getElem?_eq_none (by omega)]; rfl
      simp only [go_sem, ↓reduceIte, Nat.reduceEqDiff, Nat.reduceMul, Nat.reduceAdd, Nat.reduceDiv, Nat.reduceSub, Nat.reduceLT, Nat.reduceLeDiff, Int.reduceLE, Int.reduceLT, Int.reduceToNat, Int.reduceEq, n32_1, ee, hfl]
      refine ⟨fun h => by omega, fun _ => ?_⟩
      rw [hCn]
      refine ⟨fun h => ?_, fun h => ?_⟩
      · rw [if_pos (by omega)] at hQ
        exact hQ _ _ (.inl ⟨rfl, rfl⟩) rfl rfl
      · rw [succ64 hlt (by omega)]
        exact hY' ⟨by omega, by omega⟩ (by omega)
  · have : i = l.length := by omega
    subst this
    have e : (recs l).getD l.length .undef = .undef := by
      rw [List.getD_eq_getElem?_getD, List.getElem?_eq_none (by rw [recs_len]; omega)]; rfl
    simp only [go_sem, ↓reduceIte, Nat.reduceEqDiff, Nat.reduceMul, Nat.reduceAdd, Nat.reduceDiv, Nat.reduceSub, Nat.reduceLT, Nat.reduceLeDiff, Int.reduceLE, Int.reduceLT, Int.reduceToNat, Int.reduceEq, n32_0, e]
    refine ⟨fun h => by omega, fun _ => ?_⟩
    have hBn : B l.length = packH l.length ++ l.flatMap recL := by rw [← hB]; simp
    have hp : packB l = B l.length ++ sum4 (sumW (B l.length)) := by rw [hBn]; rfl
    rw [hp] at hQ
    have c58 := cw58 (B l.length) (by omega)
    generalize B l.length = W at hlen hQ c58
    clear hB hBm hB0 hBl hBn hp hY
    have h4 : (sum4 (sumW W)).length = 4 := rfl
    have hsc := bys_scalar (sum4 (sumW W))
    generalize sum4 (sumW W) = X at hQ c58 h4 hsc
    refine callK_i ⟨[.own 1 (bys X)], []⟩ (fun _ => by rw [bys_take]; exact c58) ⟨by simp only [go_sem, ↓reduceIte, Nat.reduceEqDiff, Nat.reduceMul, Nat.reduceAdd, Nat.reduceDiv, Nat.reduceSub, Nat.reduceLT, Nat.reduceLeDiff, Int.reduceLE, Int.reduceLT, Int.reduceToNat, Int.reduceEq], .inr ⟨by simpa [OC.scalar, CV.scalar] using hsc, by simp⟩, ⟨by simp only [go_sem, ↓reduceIte, Nat.reduceEqDiff, Nat.reduceMul, Nat.reduceAdd, Nat.reduceDiv, Nat.reduceSub, Nat.reduceLT, Nat.reduceLeDiff, Int.reduceLE, Int.reduceLT, Int.reduceToNat, Int.reduceEq], by simp, by simp, by simp⟩, ?_⟩
    simp only [go_sem, ↓reduceIte, Nat.reduceEqDiff, Nat.reduceMul, Nat.reduceAdd, Nat.reduceDiv, Nat.reduceSub, Nat.reduceLT, Nat.reduceLeDiff, Int.reduceLE, Int.reduceLT, Int.reduceToNat, Int.reduceEq]
    rw [bys_take, bys_take, bys_app]
    simp only [bys_len, h4]
    have hl : (W ++ X).length = W.length + 4 := by rw [List.length_append, h4]
    rw [hl] at hQ
    refine ⟨by omega, fun h => ?_, fun h => ?_⟩
    · rw [if_pos (by omega)] at hQ
      exact hQ _ _ (.inl ⟨rfl, rfl⟩) rfl rfl
    · rw [if_neg (by omega)] at hQ
      exact hQ _ _ (own_at rfl (by rw [bys_len]; show W.length + 4 = (W ++ X).length; omega) rfl) rfl rfl
end Go.Proofs.Ytcpdnpaedkcebaa.V
namespace Go.Proofs.Ytcpdnpaedkcebaa.V
open Go Go.RowKit
set_option linter.unusedVariables false
set_option linter.unusedSimpArgs false
theorem hit_spec {l : List Rec} {f c : Int} {r : Rec} (h : hit l f c = some r) : r ∈ l ∧ famK r.kind = f ∧ speaksR r c = true := by
  unfold hit at h
  split at h
  · cases h
  · have := List.find?_some h
    simp only [Bool.and_eq_true, decide_eq_true_eq] at this
    exact ⟨List.mem_of_find?_eq_some h, this⟩
theorem hit_none {l : List Rec} {f c : Int} (h : ∀ r ∈ l, famK r.kind = f → speaksR r c = true → False) : hit l f c = none := by
  cases hh : hit l f c with
  | none => rfl
  | some r => have := hit_spec hh; exact (h r this.1 this.2.1 this.2.2).elim
theorem speaks_in {r : Rec} {c : Int} (h : speaksR r c = true) : r.lo ≤ c ∧ c ≤ r.hi ∧ 0 ≤ c ∧ c ≤ 1114111 := by
  unfold speaksR at h
  split at h
  · cases h
  · omega
theorem wrong_zero {l : List Rec} {r : Rec} (h : wrongP l r = 0) (hf : famK r.kind = 2 ∨ famK r.kind = 3) :
    128 ≤ r.lo ∧ hangulF r = false ∧ (famK r.kind = 3 → ∃ x, fullL l (IntKind.i32.wrap r.lo) = .ok x ∧ fallsL l x = false ∧ (r.kind = 7 → pairsL l r = true)) := by
  unfold wrongP at h
  rw [if_neg (by omega)] at h
  by_cases h1 : r.lo < 128
  · rw [if_pos h1] at h; omega
  rw [if_neg h1] at h
  by_cases h2 : hangulF r = true
  · rw [if_pos h2] at h; omega
  rw [if_neg h2] at h
  refine ⟨by omega, by simpa using h2, fun h3 => ?_⟩
  rw [if_neg (by omega)] at h
  cases hx : fullL l (IntKind.i32.wrap r.lo) with
  | error e => rw [hx] at h; exact absurd h (walkN_ne l 16 _ _ _ e hx)
  | ok x =>
    rw [hx] at h
    simp only at h
    by_cases h4 : fallsL l x = true
    · rw [if_pos h4] at h; omega
    rw [if_neg h4] at h
    refine ⟨x, rfl, by simpa using h4, fun hk => ?_⟩
    cases hp : pairsL l r with
    | true => rfl
    | false => rw [if_pos ⟨hk, hp⟩] at h; omega
structure Good (l : List Rec) : Prop where
  ok : ∀ r ∈ l, r.ok
  chk : (checkP l).2 = 0
  right : ∀ r ∈ l, r.right
  zero : ∀ r ∈ l, wrongP l r = 0
def jamo (c : Int) : Prop := 4352 ≤ c ∧ c ≤ 4370 ∨ 4449 ≤ c ∧ c ≤ 4469 ∨ 4520 ≤ c ∧ c ≤ 4546
theorem no_hangul {r : Rec} {c : Int} (h : hangulF r = false) (h1 : r.lo ≤ c) (h2 : c ≤ r.hi) : ¬jamo c := by
  unfold hangulF coversR at h
  simp only [Bool.or_eq_false_iff, Bool.and_eq_false_iff, decide_eq_false_iff_not] at h
  unfold jamo
  omega
theorem Good.jamo {l : List Rec} (h : Good l) {c : Int} (hc : jamo c) {f : Int} (hf : f = 2 ∨ f = 3) : hit l f c = none :=
  hit_none fun r hr hk hs => by
    have := speaks_in hs
    exact no_hangul (wrong_zero (h.zero r hr) (by omega)).2.1 this.1 this.2.1 hc
theorem Good.jopen {l : List Rec} (h : Good l) {c : Int} (hc : V.jamo c) : openL l c = [] := by
  unfold openL
  have : ¬syl c = true := by
    unfold syl; unfold V.jamo at hc
    simp only [Bool.and_eq_true, decide_eq_true_eq]
    omega
  rw [if_neg this, h.jamo hc (.inr rfl)]
theorem syl_iff (c : Int) : syl c = true ↔ 44032 ≤ c ∧ c ≤ 55203 := by unfold syl; simp
theorem part_spec {c : Int} (hc : syl c = true) :
    ((c - 44032) % 28 = 0 ∧ V.jamo (partA c) ∧ V.jamo (partB c)) ∨ ((c - 44032) % 28 ≠ 0 ∧ syl (partA c) = true ∧ (partA c - 44032) % 28 = 0 ∧ partA c ≠ c ∧ V.jamo (partB c)) := by
  rw [syl_iff] at hc
  have e1 : IntKind.i32.wrap (c - 44032) = c - 44032 := by rw [wrap_i32]; omega
  have e2 : (c - 44032).tmod 28 = (c - 44032) % 28 := Int.tmod_eq_emod_of_nonneg (by omega)
  have e3 : (c - 44032).tdiv 28 = (c - 44032) / 28 := Int.tdiv_eq_ediv_of_nonneg (by omega)
  unfold partA partB
  rw [e1, e2, e3]
  have e4 : IntKind.i32.wrap ((c - 44032) / 28) = (c - 44032) / 28 := by rw [wrap_i32]; omega
  have e5 : ((c - 44032) / 28).tmod 21 = (c - 44032) / 28 % 21 := Int.tmod_eq_emod_of_nonneg (by omega)
  have e6 : ((c - 44032) / 28).tdiv 21 = (c - 44032) / 28 / 21 := Int.tdiv_eq_ediv_of_nonneg (by omega)
  rw [e4, e5, e6]
  have e7 : ∀ t : Int, 0 ≤ t → t < 28 → IntKind.i32.wrap (c - t) = c - t := fun t h1 h2 => by rw [wrap_i32]; omega
  have e8 : 0 ≤ (c - 44032) % 28 ∧ (c - 44032) % 28 < 28 := by omega
  by_cases h : 0 < (c - 44032) % 28
  · rw [if_pos h, if_pos h, syl_iff, e7 _ e8.1 e8.2]
    clear e2 e3 e4 e5 e6 e7
    refine .inr ⟨by omega, ⟨by omega, by omega⟩, by omega, by omega, ?_⟩
    simp only [wrap_i32, V.jamo]
    omega
  · rw [if_neg h, if_neg h]
    refine .inl ⟨by omega, ?_, ?_⟩ <;> simp only [wrap_i32, V.jamo] <;> omega
theorem walk_leaf {l : List Rec} {n : Nat} {c : Int} {way out : List Int} (h : openL l c = []) (ho : out.length < 32) : walkN l n c way out = .ok (out ++ [c]) := by
  rw [walkN_unfold, if_pos h, if_neg (by omega)]
theorem walk_two {l : List Rec} {n : Nat} {c a b : Int} {way out y z : List Int} (h : openL l c = [a, b]) (hc : c ∉ way) (h1 : walkN l n a (way ++ [c]) out = .ok y) (h2 : walkN l n b (way ++ [c]) y = .ok z) : walkN l (n + 1) c way out = .ok z := by
  rw [walkN_unfold, if_neg (by rw [h]; simp), if_neg hc, h]
  simp only [List.foldlM_cons, List.foldlM_nil, h1]
  show (walkN l n b (way ++ [c]) y >>= fun s => pure s) = _
  rw [h2]
  rfl
theorem Good.syl {l : List Rec} (h : Good l) {c : Int} (hc : V.syl c = true) : ∃ x, fullL l c = .ok x ∧ ∀ t ∈ x, V.jamo t := by
  have ho : openL l c = [partA c, partB c] := by unfold openL; rw [if_pos hc]
  unfold fullL
  rcases part_spec hc with ⟨_, ha, hb⟩ | ⟨_, ha, hm, hne, hb⟩
  · refine ⟨[partA c, partB c], walk_two ho (by simp) (walk_leaf (h.jopen ha) (by simp)) (walk_leaf (h.jopen hb) (by simp)), ?_⟩
    intro t ht
    simp only [List.mem_cons, List.not_mem_nil, or_false] at ht
    rcases ht with rfl | rfl
    · exact ha
    · exact hb
  · have ho2 : openL l (partA c) = [partA (partA c), partB (partA c)] := by unfold openL; rw [if_pos ha]
    rcases part_spec ha with ⟨_, ha2, hb2⟩ | ⟨hx, _⟩
    · refine ⟨[partA (partA c), partB (partA c), partB c], walk_two ho (by simp) (walk_two ho2 (by simpa using hne) (walk_leaf (h.jopen ha2) (by simp)) (walk_leaf (h.jopen hb2) (by simp))) (walk_leaf (h.jopen hb) (by simp)), ?_⟩
      intro t ht
      simp only [List.mem_cons, List.not_mem_nil, or_false] at ht
      rcases ht with rfl | rfl | rfl
      · exact ha2
      · exact hb2
      · exact hb
    · exact absurd hm hx
end Go.Proofs.Ytcpdnpaedkcebaa.V
namespace Go.Proofs.Ytcpdnpaedkcebaa.V
open Go Go.RowKit
set_option linter.unusedVariables false
set_option linter.unusedSimpArgs false
def Alike (l m : List Rec) : Prop := ∀ f c, f ≤ 3 → hit l f c = hit m f c
theorem Alike.open {l m : List Rec} (h : Alike l m) (c : Int) : openL l c = openL m c := by unfold openL; rw [h 3 c (by decide)]
theorem Alike.plain {l m : List Rec} (h : Alike l m) (c : Int) : plainP l c = plainP m c := by unfold plainP; rw [h 1 c (by decide)]
def Apart (a b : Rec) : Prop := a.right → b.right → clashF a b = false
theorem clash_mix {a b : Rec} (ha : a.kind = 15) (hb : b.kind = 15) : clashF a b = clashF b a := by
  unfold clashF
  rw [ha, hb]
  rw [Bool.eq_iff_iff]
  simp
  constructor <;> (rintro (⟨h1, h2⟩ | ⟨h1, h2⟩) <;> simp [h1, h2])
theorem Apart.symm {a b : Rec} (h : Apart a b) : Apart b a := by
  intro hb ha
  have h1 := h ha hb
  by_cases hf : famK a.kind = famK b.kind
  · by_cases hk : a.kind = 15
    · have hk2 : b.kind = 15 := fam_ten.1 (by rw [← hf]; exact fam_ten.2 hk)
      rw [clash_mix hk2 hk]; exact h1
    · have hk2 : b.kind ≠ 15 := fun h => hk (fam_ten.1 (by rw [hf]; exact fam_ten.2 h))
      cases h2 : clashF b a with
      | false => rfl
      | true =>
        have h3 := (clashF_iff (right_span hb hk2) (right_span ha hk) hf.symm).1 h2
        have h4 := (clashF_iff (right_span ha hk) (right_span hb hk2) hf).2 h3.symm
        rw [h1] at h4; cases h4
  · unfold clashF
    rw [if_pos (fun h => hf h.symm)]
theorem twice_iff (l : List Rec) : ∀ (s p : List Rec) (i : Int), twiceF l p s i = none ↔ (∀ r ∈ s, ∀ o ∈ p, clashF o r = false) ∧ s.Pairwise (fun o r => clashF o r = false)
  | [], p, i => by simp [twiceF]
  | r :: s, p, i => by
    rw [twiceF]
    by_cases h : p.any (fun o => clashF o r) = true
    · rw [if_pos h]
      simp only [reduceCtorEq, false_iff]
      rintro ⟨h1, _⟩
      obtain ⟨o, ho, h2⟩ := List.any_eq_true.1 h
      rw [h1 r (List.mem_cons_self ..) o ho] at h2
      cases h2
    · rw [if_neg h, twice_iff l s (p ++ [r]) (i + 1), List.pairwise_cons]
      have h0 : ∀ o ∈ p, clashF o r = false := fun o ho => by
        cases h2 : clashF o r with
        | false => rfl
        | true => exact absurd (List.any_eq_true.2 ⟨o, ho, h2⟩) h
      constructor
      · rintro ⟨h1, h2⟩
        refine ⟨fun x hx o ho => ?_, fun x hx => h1 x hx r (by simp), h2⟩
        rcases List.mem_cons.1 hx with rfl | hx
        · exact h0 o ho
        · exact h1 x hx o (List.mem_append.2 (.inl ho))
      · rintro ⟨h1, h2, h3⟩
        refine ⟨fun x hx o ho => ?_, h3⟩
        rcases List.mem_append.1 ho with ho | ho
        · exact h1 x (List.mem_cons_of_mem _ hx) o ho
        · rw [List.mem_singleton.1 ho]; exact h2 x hx
theorem rights_all : ∀ {l : List Rec} {i : Int}, (∀ r ∈ l, r.right) → rightsP l i = none
  | [], _, _ => rfl
  | r :: l, i, h => by
    rw [rightsP, if_neg (by rw [(h r (List.mem_cons_self ..)).2]; simp)]
    exact rights_all fun x hx => h x (List.mem_cons_of_mem _ hx)
theorem check_zero {l : List Rec} (h : ∀ r ∈ l, r.ok) : (checkP l).2 = 0 ↔ l.length ≤ 4096 ∧ (∀ r ∈ l, r.right) ∧ l.Pairwise Apart := by
  constructor
  · intro hc
    have hr := check_right h hc
    unfold checkP at hc
    rw [rights_all hr] at hc
    by_cases hn : 4096 < l.length
    · rw [if_pos hn] at hc; simp at hc
    rw [if_neg hn] at hc
    cases ht : twiceP [] l 0 with
    | some i => rw [ht] at hc; simp at hc
    | none =>
      rw [twice_eq l l [] 0 (by simp) hr] at ht
      exact ⟨by omega, hr, ((twice_iff l l [] 0).1 ht).2.imp fun h _ _ => h⟩
  · rintro ⟨h1, h2, h3⟩
    unfold checkP
    rw [rights_all h2, if_neg (by omega), twice_eq l l [] 0 (by simp) h2, (twice_iff l l [] 0).2 ⟨by simp, ?_⟩]
    exact h3.imp_of_mem fun ha hb h => h (h2 _ ha) (h2 _ hb)
end Go.Proofs.Ytcpdnpaedkcebaa.V
namespace Go.Proofs.Ytcpdnpaedkcebaa.V
open Go Go.RowKit
set_option linter.unusedVariables false
set_option linter.unusedSimpArgs false
set_option maxRecDepth 100000
theorem split32 : codeOf Try.f32 = .seq (seqA (codeOf Try.f32)) (.seq (seqA (seqB (codeOf Try.f32))) (.seq (.region 4 (opsOf (seqA (seqB (seqB (codeOf Try.f32))))) false) (seqB (seqB (seqB (codeOf Try.f32)))))) := by kernel_rfl
def z4 (f : Func) : Array Oper := opsOf (seqA (seqB (seqB (codeOf f))))
theorem z4_l : (z4 Try.f32).toList = at_ (z4 Try.f32) 0 :: at_ (z4 Try.f32) 1 :: (z4 Try.f32).toList.drop 2 := by kernel_rfl
def endo4 : Array Value := #[.int .u8 101, .int .u8 110, .int .u8 100, .int .u8 111]
theorem i5 : Try.prog.info? 5 = some Try.t5 := by kernel_rfl
theorem o0_op : (at_ (z4 Try.f32) 0).op = .buildSlice 52 4 #[(0, .const (.int .u8 101)), (1, .const (.int .u8 110)), (2, .const (.int .u8 100)), (3, .const (.int .u8 111))] := by kernel_rfl
theorem o1_op : (at_ (z4 Try.f32) 1).op = .convert 52 52 (.tmp 21) := by kernel_rfl
theorem o0_dst : (at_ (z4 Try.f32) 0).dst = some 21 := by kernel_rfl
theorem o1_dst : (at_ (z4 Try.f32) 1).dst = some 22 := by kernel_rfl
theorem o0_gd : (at_ (z4 Try.f32) 0).guard = none := by kernel_rfl
theorem o1_gd : (at_ (z4 Try.f32) 1).guard = none := by kernel_rfl
theorem run_conv (w : World) : (convert 52 52 (.slice (some ⟨w.heap.size, 0, none⟩) 4 4)).run Try.prog (w.alloc (.cells endo4 5)) = .ok (.slice (some ⟨w.heap.size, 0, none⟩) 4 4) { w with heap := w.heap.push (.cells endo4 5 (4, 5)) } := by
  have h3 : (w.alloc (.cells endo4 5)).heap[w.heap.size]? = some (.cells endo4 5 (0, 0)) := by
    show (w.heap.push _)[w.heap.size]? = _
    simp
  have hsh : (w.alloc (.cells endo4 5)).shape? w.heap.size = some (5, 4) := by
    unfold World.shape?; rw [h3]; rfl
  have hrun : (markStringish ⟨w.heap.size, 0, none⟩).run Try.prog (w.alloc (.cells endo4 5)) = .ok () ((w.alloc (.cells endo4 5)).freeze ⟨w.heap.size, 4, none⟩ 1) := by
    simp only [markStringish, shape, Sem.run_bind, Sem.run, hsh, Result.andThen_ok, freeze]
  have hw : (w.alloc (.cells endo4 5)).freeze ⟨w.heap.size, 4, none⟩ 1 = { w with heap := w.heap.push (.cells endo4 5 (4, 5)) } := by
    show World.mk _ _ _ _ _ = World.mk _ _ _ _ _
    congr 1
    show (w.heap.push _).modify _ _ = _
    apply Array.ext_getElem?
    intro k
    rw [Array.getElem?_modify]
    by_cases hk : w.heap.size = k
    · subst hk; simp
    · rw [if_neg hk, Array.getElem?_push, Array.getElem?_push]
      simp [Ne.symm hk]
  simp only [convert, Sem.run_bind, run_underlying Try.underlying52, run_underlying Try.underlying5, Result.andThen_ok]
  show ((markStringish ⟨w.heap.size, 0, none⟩) >>= fun _ => pure (Value.slice (some ⟨w.heap.size, 0, none⟩) 4 4)).run Try.prog _ = _
  rw [Sem.run_bind, hrun, Result.andThen_ok, hw]
  rfl
theorem beg32 {C : Ctx} {ι : Nat → Loc} {S : Nat → Prop} {σ : Slots} {a : Act} {w : World} (h : R C ι S σ [] a w) (hn : C.n = Try.f32.ntmps) {Q : Exit → Act → World → Prop} {rest : List Oper}
    (hk : ∀ ι' a' w', R C ι' S ((22, .osl 576000 0 4) :: (21, .osl 576000 0 4) :: σ) [(576000, .row 1 (bys [101, 110, 100, 111]))] a' w' → wpList Try.prog (z4 Try.f32) Q rest a' w') :
    wpList Try.prog (z4 Try.f32) Q (at_ (z4 Try.f32) 0 :: at_ (z4 Try.f32) 1 :: rest) a w := by
  have w0 : ∀ tm, Region.wanted (at_ (z4 Try.f32) 0) (yielded (z4 Try.f32) tm) = true := fun tm => by unfold Region.wanted; rw [o0_gd]
  have w1 : ∀ tm, Region.wanted (at_ (z4 Try.f32) 1) (yielded (z4 Try.f32) tm) = true := fun tm => by unfold Region.wanted; rw [o1_gd]
  rw [wpList, if_pos (w0 _)]
  left
  have hie : ∃ ie, Try.prog.info? 5 = some ie ∧ ie.size = 1 ∧ ie.zero = some (.int .u8 0) := ⟨Try.t5, i5, by kernel_rfl, by kernel_rfl⟩
  obtain ⟨ie, hie, hsz, hz⟩ := hie
  refine wp_buildSlice 52 5 4 _ o0_op endo4 ie (.int .u8 0) Try.underlying52 hie hz (by rw [hsz]; decide) (by rw [hsz]; decide) (by
    rw [hsz]
    rw [Array.toList_map]
    show Instr.fill (fun i => some (i * 1, 1)) _ [(0, Value.int .u8 101), (1, Value.int .u8 110), (2, Value.int .u8 100), (3, Value.int .u8 111)] = some endo4
    kernel_rfl) ?_
  rw [wpList, if_pos (w1 _)]
  left
  unfold Oper.wp execOp
  rw [o0_dst]
  have hsz : 21 < a.tmps.size := by rw [h.size, hn]; decide +kernel
  have he : (a.put (some 21) (.slice (some ⟨w.heap.size, 0, none⟩) 4 4)).eval (.tmp 21) = .slice (some ⟨w.heap.size, 0, none⟩) 4 4 := by
    simp [Act.eval, Act.put, hsz]
  simp only [o1_op, he, Sem.run_bind, run_conv w, Result.andThen_ok]
  show wpList _ _ _ _ _ _
  rw [o1_dst]
  obtain ⟨ι', hR, hv⟩ := mk_row (u := 9000) h (w' := { w with heap := w.heap.push (.cells endo4 5 (4, 5)) }) ⟨by decide, by simp⟩ rfl rfl rfl rfl (e := 1) (xs := bys [101, 110, 100, 111]) (cap := 4) (by decide) (fun x hx => by
      obtain ⟨c, _, rfl⟩ := List.mem_map.1 hx
      exact ⟨rfl, by simp [u8, CV.cells, CV.one]⟩) (by decide) (.inr (by decide)) (fun i j hi hj => by
      have : j = 0 := by omega
      subst this
      have hi : i < 4 := hi
      match i, hi with
      | 0, _ => exact .int _ _
      | 1, _ => exact .int _ _
      | 2, _ => exact .int _ _
      | 3, _ => exact .int _ _)
  have h1 := hR.put (d := some 21) hv (fun k hk => by cases hk; rw [hn]; decide +kernel)
  have h2 := h1.put (d := some 22) hv (fun k hk => by cases hk; rw [hn]; decide +kernel)
  exact hk _ _ _ h2
def q32c : List IOp := [⟨some 23, 9001, none, .bsl 1 [.c (.int .u8 1)]⟩, ⟨some 24, 9002, none, .app (.t 22) (.t 23) 1 1 false⟩, ⟨some 7, 0, none, .mv (.t 24)⟩]
theorem z4_c : chkOps Try.prog Try.f32.ntmps (z4 Try.f32) ((z4 Try.f32).toList.drop 2) q32c = true := by decide +kernel
theorem w32c (l : List Rec) (Q : Ex → Slots → LH → Prop) (hQ : ∀ σ, Has σ [(0, .c (.sl 8 (recs l))), (7, .osl 576128 0 5)] → Q .norm σ h32) : rnC Try.prog (.reg q32c) Q [(22, .osl 576000 0 4), (0, .c (.sl 8 (recs l)))] [(576000, .row 1 (bys [101, 110, 100, 111]))] := by
  unfold q32c
  simp only [go_sem, ↓reduceIte, Nat.reduceEqDiff, Nat.reduceMul, Nat.reduceAdd, Nat.reduceDiv, Nat.reduceSub, Nat.reduceLT, Nat.reduceLeDiff, Int.reduceLE, Int.reduceLT, Int.reduceToNat, Int.reduceEq]
  exact hQ _ ⟨rfl, rfl, trivial⟩
theorem wp0 (l : List Rec) (Q : Ex → Slots → LH → Prop) (hQ : ∀ σ, Has σ [(0, .c (.sl 8 (recs l)))] → Q .norm σ []) : rnC Try.prog ep0 Q [(0, .c (.sl 8 (recs l)))] [] := by
  unfold ep0
  simp only [go_sem, ↓reduceIte, Nat.reduceEqDiff, Nat.reduceMul, Nat.reduceAdd, Nat.reduceDiv, Nat.reduceSub, Nat.reduceLT, Nat.reduceLeDiff, Int.reduceLE, Int.reduceLT, Int.reduceToNat, Int.reduceEq]
  exact hQ _ ⟨rfl, trivial⟩
theorem wp1 (l : List Rec) (hl : ∀ r ∈ l, r.ok) (hto : ∀ r ∈ l, r.to.length ≤ 35184372088832) (Q : Ex → Slots → LH → Prop) (h0 : (checkP l).2 = 0 → ∀ σ, Has σ [(0, .c (.sl 8 (recs l)))] → Q .norm σ [])
    (h1 : (checkP l).2 ≠ 0 → ∀ σ, Slots.get σ 2 = .c .nilsl → Slots.get σ 3 = .c (.int .i64 (checkP l).1) → Slots.get σ 4 = .c (.int .i64 (checkP l).2) → Q .ret σ []) : rnC Try.prog ep1 Q [(0, .c (.sl 8 (recs l)))] [] := by
  unfold ep1
  simp only [go_sem, ↓reduceIte, Nat.reduceEqDiff, Nat.reduceMul, Nat.reduceAdd, Nat.reduceDiv, Nat.reduceSub, Nat.reduceLT, Nat.reduceLeDiff, Int.reduceLE, Int.reduceLT, Int.reduceToNat, Int.reduceEq]
  refine callK_2 _ _ (fun _ => cw30 l hl hto) (by simp only [go_sem, ↓reduceIte, Nat.reduceEqDiff, Nat.reduceMul, Nat.reduceAdd, Nat.reduceDiv, Nat.reduceSub, Nat.reduceLT, Nat.reduceLeDiff, Int.reduceLE, Int.reduceLT, Int.reduceToNat, Int.reduceEq]) rfl rfl ?_
  simp only [go_sem, ↓reduceIte, Nat.reduceEqDiff, Nat.reduceMul, Nat.reduceAdd, Nat.reduceDiv, Nat.reduceSub, Nat.reduceLT, Nat.reduceLeDiff, Int.reduceLE, Int.reduceLT, Int.reduceToNat, Int.reduceEq]
  repeat (refine ⟨by (first | omega | (intro h1 h2; exact ⟨h1, h2⟩) | (intro h1; omega) | (intro h1; exact h1) | trivial), ?_⟩)
  exact ⟨fun h => h1 h _ rfl rfl rfl, fun h => h0 h _ ⟨rfl, trivial⟩⟩
def rs32 : List (Nat × Option Nat × Mode) := [(2, none, .move 1), (3, none, .plain), (4, none, .plain)]
theorem cw32 (l : List Rec) (hl : ∀ r ∈ l, r.ok) (hwt : ∀ r ∈ l, r.wok) (hto : ∀ r ∈ l, r.to.length ≤ 35184372088832) :
    CW Try.prog 32 [.cv (.sl 8 (recs l))] ⟨[.own 1 (bys (packF l).1), .cv (.int .i64 (packF l).2.1), .cv (.int .i64 (packF l).2.2)], []⟩ := by
  refine CW.hand (c := codeOf Try.f32) rs32 [] Try.func32 (by kernel_rfl) (by decide +kernel) (by decide +kernel) (by show 1 ≤ Try.f32.ntmps; decide +kernel) (by show 1 ≤ 8; decide) trivial (fun C ι S a w hn hO' hR => ?_)
  have hR : R C ι S [(0, .c (.sl 8 (recs l)))] [] a w := hR
  have fin : ∀ σ H, OwnAt 1 (bys (packF l).1) (Slots.get σ 2) H → Slots.get σ 3 = .c (.int .i64 (packF l).2.1) → Slots.get σ 4 = .c (.int .i64 (packF l).2.2) → retW σ H rs32 [.cv (.sl 8 (recs l))] [] ⟨[.own 1 (bys (packF l).1), .cv (.int .i64 (packF l).2.1), .cv (.int .i64 (packF l).2.2)], []⟩ := fun σ H x y z => retO3 rfl x y z
  rw [split32]
  refine wp_seq (code_sound (C := C) ep0 _ (by rw [hn]; exact chk_ep0) hR (rn_ok _ (fun _ _ _ h => h) (wp0 l (fun e σ H => e = .norm ∧ Has σ [(0, .c (.sl 8 (recs l)))] ∧ H = []) fun σ h => ⟨rfl, h, rfl⟩)) fun e ι1 S1 σ1 H1 a1 w1 hq h1 => ?_)
  obtain ⟨rfl, hs1, rfl⟩ := hq
  have h1 := R.weak h1 hs1
  refine wp_seq (code_sound (C := C) ep1 _ (by rw [hn]; exact chk_ep1) h1 (rn_ok _ (fun _ _ _ h => h) (wp1 l hl hto (fun e σ H => (e = .norm ∧ (checkP l).2 = 0 ∧ Has σ [(0, .c (.sl 8 (recs l)))] ∧ H = []) ∨ (e = .ret ∧ OwnAt 1 (bys (packF l).1) (Slots.get σ 2) H ∧ Slots.get σ 3 = .c (.int .i64 (packF l).2.1) ∧ Slots.get σ 4 = .c (.int .i64 (packF l).2.2))) (fun h0 σ h => .inl ⟨rfl, h0, h, rfl⟩) (fun h0 σ x y z => .inr ⟨rfl, ?_⟩))) fun e ι2 S2 σ2 H2 a2 w2 hq h2 => ?_)
  · have e : packF l = ([], checkP l) := by unfold packF; rw [if_pos h0]
    rw [e]
    exact ⟨.inl ⟨x, rfl⟩, y, z⟩
  rcases hq with ⟨rfl, h0, hs2, rfl⟩ | ⟨rfl, x, y, z⟩
  rotate_left
  · exact ⟨.inr rfl, ι2, S2, σ2, H2, h2, fin _ _ x y z⟩
  have h2 := R.weak h2 hs2
  have hr := check_right hl h0
  have hn4 : l.length ≤ 4096 := ((check_zero hl).1 h0).1
  have e : packF l = if 262144 < (packB l).length then ([], 0, 2) else (packB l, 0, 0) := by unfold packF; rw [if_neg (by simpa using h0)]
  refine wp_seq (wp_region_list ?_)
  show wpList Try.prog (z4 Try.f32) _ (z4 Try.f32).toList a2 w2
  rw [z4_l]
  refine beg32 h2 hn fun ι3 a3 w3 h3 => ?_
  have h3 := R.weak (l := [(22, .osl 576000 0 4), (0, .c (.sl 8 (recs l)))]) h3 ⟨rfl, rfl, trivial⟩
  refine ops_sound (C := C) _ q32c (by rw [hn]; exact z4_c) h3 (rn_ok (.reg q32c) (fun _ _ _ h => h) (w32c l (fun e σ H => e = .norm ∧ Has σ [(0, .c (.sl 8 (recs l))), (7, .osl 576128 0 5)] ∧ H = h32) fun σ h => ⟨rfl, h, rfl⟩)) fun ι4 S4 σ4 H4 a4 w4 hq h4 => ?_
  obtain ⟨_, hs4, rfl⟩ := hq
  have h4 := R.weak h4 hs4
  refine code_sound (C := C) ep2 _ (by rw [hn]; exact chk_ep2) h4 (rn_ok _ (fun _ _ _ h => h) (w32r l hn4 hr hwt (fun e σ H => e = .ret ∧ OwnAt 1 (bys (packF l).1) (Slots.get σ 2) H ∧ Slots.get σ 3 = .c (.int .i64 (packF l).2.1) ∧ Slots.get σ 4 = .c (.int .i64 (packF l).2.2)) fun σ H x y z => ⟨rfl, by rw [e]; exact x, by rw [e]; exact y, by rw [e]; exact z⟩)) fun e' ι5 S5 σ5 H5 a5 w5 hq h5 => ?_
  obtain ⟨rfl, x, y, z⟩ := hq
  exact ⟨.inr rfl, ι5, S5, σ5, H5, h5, fin _ _ x y z⟩
end Go.Proofs.Ytcpdnpaedkcebaa.V
namespace Go.Proofs.Ytcpdnpaedkcebaa.V
open Go Go.RowKit
set_option linter.unusedVariables false
set_option linter.unusedSimpArgs false
set_option maxRecDepth 100000
def b102 : IC := (.seq (.reg [⟨(some 2), 0, none, .mv (.c (.str ⟨#[]⟩))⟩]) (.seq (.seq (.reg [⟨(some 3), 0, none, .mv (.t 0)⟩]) (.block 0 (.seq (.reg [⟨(some 5), 0, none, .bin .eql (.t 3) (.c (.int .i64 3))⟩,
  ⟨(some 4), 0, none, .mv (.t 5)⟩]) (.cond (.t 4) (.seq (.reg [⟨(some 2), 0, none, .mv (.c (.str ⟨#[83, 120]⟩))⟩]) .ret) (.seq (.reg [⟨(some 7), 0, none, .bin .eql (.t 3) (.c (.int .i64 4))⟩,
  ⟨(some 6), 0, none, .mv (.t 7)⟩]) (.cond (.t 6) (.seq (.reg [⟨(some 2), 0, none, .mv (.c (.str ⟨#[83, 78, 84]⟩))⟩]) .ret) (.seq (.seq (.reg [⟨(some 9), 0, none, .bin .eql (.t 3) (.c (.int .i64 5))⟩,
  ⟨(some 8), 0, none, .mv (.t 9)⟩]) (.cond (.t 8) .skip (.seq (.reg [⟨(some 10), 0, none, .bin .eql (.t 3) (.c (.int .i64 7))⟩,
  ⟨(some 8), 0, none, .mv (.t 10)⟩]) (.cond (.t 8) .skip (.seq (.reg [⟨(some 11), 0, none, .bin .eql (.t 3) (.c (.int .i64 8))⟩,
  ⟨(some 8), 0, none, .mv (.t 11)⟩]) (.cond (.t 8) .skip (.reg [⟨(some 12), 0, none, .bin .eql (.t 3) (.c (.int .i64 13))⟩,
  ⟨(some 8), 0, none, .mv (.t 12)⟩]))))))) (.cond (.t 8) (.seq (.reg [⟨(some 2), 0, none, .mv (.c (.str ⟨#[76, 120]⟩))⟩]) .ret) (.seq (.seq (.reg [⟨(some 14), 0, none, .bin .eql (.t 3) (.c (.int .i64 6))⟩,
  ⟨(some 13), 0, none, .mv (.t 14)⟩]) (.cond (.t 13) .skip (.seq (.reg [⟨(some 15), 0, none, .bin .eql (.t 3) (.c (.int .i64 9))⟩,
  ⟨(some 13), 0, none, .mv (.t 15)⟩]) (.cond (.t 13) .skip (.reg [⟨(some 16), 0, none, .bin .eql (.t 3) (.c (.int .i64 10))⟩,
  ⟨(some 13), 0, none, .mv (.t 16)⟩]))))) (.cond (.t 13) (.seq (.reg [⟨(some 2), 0, none, .mv (.c (.str ⟨#[83, 78]⟩))⟩]) .ret) (.seq (.reg [⟨(some 18), 0, none, .bin .eql (.t 3) (.c (.int .i64 12))⟩,
  ⟨(some 17), 0, none, .mv (.t 18)⟩]) (.cond (.t 17) (.seq (.reg [⟨(some 2), 0, none, .mv (.c (.str ⟨#[83, 110]⟩))⟩]) .ret) (.seq (.reg [⟨(some 20), 0, none, .bin .eql (.t 3) (.c (.int .i64 14))⟩,
  ⟨(some 19), 0, none, .mv (.t 20)⟩]) (.cond (.t 19) (.seq (.reg [⟨(some 2), 0, none, .mv (.c (.str ⟨#[83, 87]⟩))⟩]) .ret) (.seq (.reg [⟨(some 22), 0, none, .bin .eql (.t 3) (.c (.int .i64 15))⟩,
  ⟨(some 21), 0, none, .mv (.t 22)⟩]) (.cond (.t 21) (.seq (.reg [⟨(some 2), 0, none, .mv (.c (.str ⟨#[110, 111, 87]⟩))⟩]) .ret) .skip)))))))))))))))) (.seq (.reg [⟨(some 2), 0, none, .mv (.c (.str ⟨#[83]⟩))⟩]) .ret)))
def rs102 : List (Nat × Option Nat × Mode) := [(2, none, .plain)]
theorem chk102 : chkC Try.prog Try.f102.ntmps b102 (Try.f102.body.getD .skip) = true := by decide +kernel
theorem top102 {args : List Arg} {out : Out} (ha : args.length.ble Try.f102.ntmps = true) (h8 : args.length.ble 8 = true) (mss : List (List (Option Nat))) (hb : backOK args out.back)
    (hw : rnC Try.prog b102 (topQ rs102 args mss out) (slotsOf (argsAV argBase args 0) 0) (argsOb argBase args 0)) : CW Try.prog 102 args out :=
  CW.of Try.func102 rs102 mss (by decide +kernel) (by decide +kernel) (by decide +kernel) ha h8 chk102 hb hw
def formL (k : Int) : List UInt8 :=
  if k = 3 then [83, 120] else if k = 4 then [83, 78, 84] else if k = 5 ∨ k = 7 ∨ k = 8 ∨ k = 13 then [76, 120] else
  if k = 6 ∨ k = 9 ∨ k = 10 then [83, 78] else if k = 12 then [83, 110] else if k = 14 then [83, 87] else if k = 15 then [110, 111, 87] else [83]
theorem w102 (k : Int) (Q : Ex → Slots → LH → Prop) (hQ : ∀ σ H, Slots.get σ 2 = .c (.str (strOf (formL k))) → Q .ret σ H) : rnC Try.prog b102 Q [(0, .c (.int .i64 k))] [] := by
  unfold b102
  unfold formL at hQ
  simp only [go_sem, ↓reduceIte, Nat.reduceEqDiff, Nat.reduceMul, Nat.reduceAdd, Nat.reduceDiv, Nat.reduceSub, Nat.reduceLT, Nat.reduceLeDiff, Int.reduceLE, Int.reduceLT, Int.reduceToNat, Int.reduceEq]
  repeat refine ⟨fun h => hQ _ _ (by subst h; rfl), fun h => ?_⟩
  refine hQ _ _ ?_
  simp only [go_sem, ↓reduceIte, Nat.reduceEqDiff, Nat.reduceMul, Nat.reduceAdd, Nat.reduceDiv, Nat.reduceSub, Nat.reduceLT, Nat.reduceLeDiff, Int.reduceLE, Int.reduceLT, Int.reduceToNat, Int.reduceEq]
  repeat rw [if_neg (by omega)]
  rfl
theorem cw102 (k : Int) : CW Try.prog 102 [.cv (.int .i64 k)] ⟨[.cv (.str (strOf (formL k)))], []⟩ :=
  top102 rfl rfl [] trivial (w102 k _ fun σ H h => ret1 rfl h)
end Go.Proofs.Ytcpdnpaedkcebaa.V
namespace Go.Proofs.Ytcpdnpaedkcebaa.V
open Go Go.RowKit
set_option linter.unusedVariables false
set_option linter.unusedSimpArgs false
set_option maxRecDepth 100000
def l60_1 : IC := (.seq (.seq (.reg [⟨(some 76), 0, none, .mv (.t 6)⟩,
  ⟨(some 77), 0, none, .fa (.t 1) 4⟩,
  ⟨(some 78), 0, none, .ld (.t 77) none⟩,
  ⟨(some 79), 0, none, .len false (.t 78)⟩,
  ⟨(some 80), 0, none, .bin .lss (.t 76) (.t 79)⟩]) (.cond (.t 80) .skip (.exit 3))) (.seq (.block 4 (.reg [⟨(some 83), 0, none, .mv (.t 3)⟩,
  ⟨(some 84), 0, none, .fa (.t 1) 4⟩,
  ⟨(some 85), 0, none, .ld (.t 84) none⟩,
  ⟨(some 86), 0, none, .mv (.t 6)⟩,
  ⟨(some 87), 0, none, .ia (.t 85) (.t 86) 1⟩,
  ⟨(some 88), 0, none, .ld (.t 87) none⟩,
  ⟨(some 89), 0, none, .conv .i64 (.t 88)⟩,
  ⟨(some 90), 79, none, .call (.c (.fn 59)) [((.t 89), .plain)]⟩,
  ⟨(some 91), 89, none, .app (.t 83) (.t 90) 1 1 false⟩,
  ⟨(some 3), 0, none, .mv (.t 91)⟩])) (.reg [⟨(some 81), 0, none, .mv (.t 6)⟩,
  ⟨(some 82), 0, none, .bin .add (.t 81) (.c (.int .i64 1))⟩,
  ⟨(some 6), 0, none, .mv (.t 82)⟩])))
def n60_1 : Norm := ⟨[(1, .plain), (3, .own 1 1000003), (4, .plain), (5, .plain), (6, .plain)], [(64, [.plain, .plain, .plain, .plain, .plain, .plain, .plain, .plain])]⟩
def l60_0 : IC := (.seq (.seq (.reg [⟨(some 14), 0, none, .mv (.t 5)⟩,
  ⟨(some 15), 0, none, .mv (.t 4)⟩,
  ⟨(some 16), 0, none, .len true (.t 15)⟩,
  ⟨(some 17), 0, none, .bin .lss (.t 14) (.t 16)⟩]) (.cond (.t 17) .skip (.exit 0))) (.seq (.block 1 (.seq (.reg [⟨(some 20), 0, none, .mv (.t 4)⟩,
  ⟨(some 21), 0, none, .mv (.t 5)⟩,
  ⟨(some 22), 0, none, .sidx (.t 20) (.t 21)⟩]) (.block 2 (.seq (.reg [⟨(some 30), 0, none, .bin .eql (.t 22) (.c (.int .u8 83))⟩,
  ⟨(some 29), 0, none, .mv (.t 30)⟩]) (.cond (.t 29) (.seq (.reg [⟨(some 31), 0, none, .mv (.t 3)⟩,
  ⟨(some 32), 0, none, .fa (.t 1) 1⟩,
  ⟨(some 33), 0, none, .ld (.t 32) none⟩,
  ⟨(some 34), 13, none, .call (.c (.fn 59)) [((.t 33), .plain)]⟩,
  ⟨(some 35), 23, none, .app (.t 31) (.t 34) 1 1 false⟩,
  ⟨(some 3), 0, none, .mv (.t 35)⟩]) (.reg [⟨(some 36), 0, none, .mv (.t 3)⟩,
  ⟨(some 37), 0, none, .fa (.t 1) 2⟩,
  ⟨(some 38), 0, none, .ld (.t 37) none⟩,
  ⟨(some 39), 0, none, .fa (.t 1) 1⟩,
  ⟨(some 40), 0, none, .ld (.t 39) none⟩,
  ⟨(some 41), 0, none, .bin .sub (.t 38) (.t 40)⟩,
  ⟨(some 42), 24, none, .call (.c (.fn 59)) [((.t 41), .plain)]⟩,
  ⟨(some 43), 34, none, .app (.t 36) (.t 42) 1 1 false⟩,
  ⟨(some 3), 0, none, .mv (.t 43)⟩])) (.seq (.reg [⟨(some 45), 0, none, .bin .eql (.t 22) (.c (.int .u8 76))⟩,
  ⟨(some 44), 0, none, .mv (.t 45)⟩]) (.cond (.t 44) (.reg [⟨(some 46), 0, none, .mv (.t 3)⟩,
  ⟨(some 47), 0, none, .fa (.t 1) 1⟩,
  ⟨(some 48), 0, none, .ld (.t 47) none⟩,
  ⟨(some 49), 35, none, .call (.c (.fn 59)) [((.t 48), .plain)]⟩,
  ⟨(some 50), 45, none, .app (.t 46) (.t 49) 1 1 false⟩,
  ⟨(some 3), 0, none, .mv (.t 50)⟩]) (.seq (.reg [⟨(some 52), 0, none, .bin .eql (.t 22) (.c (.int .u8 78))⟩,
  ⟨(some 51), 0, none, .mv (.t 52)⟩]) (.cond (.t 51) (.reg [⟨(some 53), 0, none, .mv (.t 3)⟩,
  ⟨(some 54), 0, none, .fa (.t 1) 3⟩,
  ⟨(some 55), 0, none, .ld (.t 54) none⟩,
  ⟨(some 56), 46, none, .call (.c (.fn 59)) [((.t 55), .plain)]⟩,
  ⟨(some 57), 56, none, .app (.t 53) (.t 56) 1 1 false⟩,
  ⟨(some 3), 0, none, .mv (.t 57)⟩]) (.seq (.reg [⟨(some 59), 0, none, .bin .eql (.t 22) (.c (.int .u8 84))⟩,
  ⟨(some 58), 0, none, .mv (.t 59)⟩]) (.cond (.t 58) (.reg [⟨(some 60), 0, none, .mv (.t 3)⟩,
  ⟨(some 61), 0, none, .fa (.t 1) 4⟩,
  ⟨(some 62), 0, none, .ld (.t 61) none⟩,
  ⟨(some 63), 0, none, .ia (.t 62) (.c (.int .i64 0)) 1⟩,
  ⟨(some 64), 0, none, .ld (.t 63) none⟩,
  ⟨(some 65), 0, none, .conv .i64 (.t 64)⟩,
  ⟨(some 66), 57, none, .call (.c (.fn 59)) [((.t 65), .plain)]⟩,
  ⟨(some 67), 67, none, .app (.t 60) (.t 66) 1 1 false⟩,
  ⟨(some 3), 0, none, .mv (.t 67)⟩]) (.seq (.reg [⟨(some 69), 0, none, .bin .eql (.t 22) (.c (.int .u8 120))⟩,
  ⟨(some 68), 0, none, .mv (.t 69)⟩]) (.cond (.t 68) (.seq (.reg [⟨(some 70), 0, none, .mv (.t 3)⟩,
  ⟨(some 71), 0, none, .fa (.t 1) 4⟩,
  ⟨(some 72), 0, none, .ld (.t 71) none⟩,
  ⟨(some 73), 0, none, .len false (.t 72)⟩,
  ⟨(some 74), 68, none, .call (.c (.fn 59)) [((.t 73), .plain)]⟩,
  ⟨(some 75), 78, none, .app (.t 70) (.t 74) 1 1 false⟩,
  ⟨(some 3), 0, none, .mv (.t 75)⟩]) (.seq (.reg [⟨(some 6), 0, none, .mv (.c (.int .i64 0))⟩]) (.block 3 (.loop n60_1 l60_1)))) (.seq (.reg [⟨(some 93), 0, none, .bin .eql (.t 22) (.c (.int .u8 110))⟩,
  ⟨(some 92), 0, none, .mv (.t 93)⟩]) (.cond (.t 92) (.reg [⟨(some 94), 0, none, .mv (.t 3)⟩,
  ⟨(some 95), 0, none, .fa (.t 1) 5⟩,
  ⟨(some 96), 0, none, .ld (.t 95) none⟩,
  ⟨(some 97), 90, none, .call (.c (.fn 103)) [((.t 96), .plain)]⟩,
  ⟨(some 98), 100, none, .app (.t 94) (.t 97) 1 1 false⟩,
  ⟨(some 3), 0, none, .mv (.t 98)⟩]) (.seq (.reg [⟨(some 100), 0, none, .bin .eql (.t 22) (.c (.int .u8 111))⟩,
  ⟨(some 99), 0, none, .mv (.t 100)⟩]) (.cond (.t 99) (.reg [⟨(some 101), 0, none, .mv (.t 3)⟩,
  ⟨(some 102), 0, none, .fa (.t 1) 6⟩,
  ⟨(some 103), 0, none, .ld (.t 102) none⟩,
  ⟨(some 104), 101, none, .call (.c (.fn 103)) [((.t 103), .plain)]⟩,
  ⟨(some 105), 111, none, .app (.t 101) (.t 104) 1 1 false⟩,
  ⟨(some 3), 0, none, .mv (.t 105)⟩]) (.reg [⟨(some 23), 0, none, .mv (.t 3)⟩,
  ⟨(some 24), 0, none, .fa (.t 1) 7⟩,
  ⟨(some 25), 0, none, .ld (.t 24) none⟩,
  ⟨(some 26), 112, none, .call (.c (.fn 69)) [((.t 25), .plain)]⟩,
  ⟨(some 27), 122, none, .call (.c (.fn 104)) [((.t 26), .plain)]⟩,
  ⟨(some 28), 132, none, .app (.t 23) (.t 27) 1 1 false⟩,
  ⟨(some 3), 0, none, .mv (.t 28)⟩])))))))))))))))))) (.reg [⟨(some 18), 0, none, .mv (.t 5)⟩,
  ⟨(some 19), 0, none, .bin .add (.t 18) (.c (.int .i64 1))⟩,
  ⟨(some 5), 0, none, .mv (.t 19)⟩])))
def n60_0 : Norm := ⟨[(1, .plain), (3, .own 1 1000003), (4, .plain), (5, .plain)], [(64, [.plain, .plain, .plain, .plain, .plain, .plain, .plain, .plain])]⟩
def b60 : IC := (.seq (.reg [⟨(some 1), 1, none, .box (.t 0)⟩,
  ⟨(some 2), 0, none, .mv (.c .nilsl)⟩]) (.seq (.reg [⟨(some 7), 0, none, .fa (.t 1) 0⟩,
  ⟨(some 8), 0, none, .ld (.t 7) none⟩,
  ⟨(some 9), 0, none, .conv .u8 (.t 8)⟩,
  ⟨(some 10), 2, none, .bsl 1 [(.t 9)]⟩,
  ⟨(some 3), 0, none, .mv (.t 10)⟩]) (.seq (.reg [⟨(some 11), 0, none, .fa (.t 1) 0⟩,
  ⟨(some 12), 0, none, .ld (.t 11) none⟩,
  ⟨(some 13), 3, none, .call (.c (.fn 102)) [((.t 12), .plain)]⟩,
  ⟨(some 4), 0, none, .mv (.t 13)⟩]) (.seq (.seq (.reg [⟨(some 5), 0, none, .mv (.c (.int .i64 0))⟩]) (.block 0 (.loop n60_0 l60_0))) (.seq (.reg [⟨(some 106), 0, none, .mv (.t 3)⟩,
  ⟨(some 2), 0, none, .mv (.t 106)⟩]) .ret)))))
def rs60 : List (Nat × Option Nat × Mode) := [(2, none, .move 1)]
theorem chk60 : chkC Try.prog Try.f60.ntmps b60 (Try.f60.body.getD .skip) = true := by decide +kernel
theorem top60 {args : List Arg} {out : Out} (ha : args.length.ble Try.f60.ntmps = true) (h8 : args.length.ble 8 = true) (mss : List (List (Option Nat))) (hb : backOK args out.back)
    (hw : rnC Try.prog b60 (topQ rs60 args mss out) (slotsOf (argsAV argBase args 0) 0) (argsOb argBase args 0)) : CW Try.prog 60 args out :=
  CW.of Try.func60 rs60 mss (by decide +kernel) (by decide +kernel) (by decide +kernel) ha h8 chk60 hb hw
def ltrW (c : UInt8) (r : Rec) : List UInt8 :=
  if c = 83 then uintP r.lo ++ uintP (IntKind.i64.wrap (r.hi - r.lo)) else if c = 76 then uintP r.lo else if c = 78 then uintP r.n else if c = 84 then uintP (r.to.getD 0 0) else
  if c = 120 then toL r.to else if c = 110 then textL r.name else if c = 111 then textL r.other else floatL r.weight
theorem formL_84 {k : Int} (h : (84 : UInt8) ∈ formL k) : k = 4 := by
  unfold formL at h
  (repeat' split at h) <;> simp at h <;> grind
theorem formL_110 {k : Int} (h : (110 : UInt8) ∈ formL k) : k = 12 ∨ k = 15 := by
  unfold formL at h
  (repeat' split at h) <;> simp at h <;> grind
theorem formL_111 {k : Int} (h : (111 : UInt8) ∈ formL k) : k = 15 := by
  unfold formL at h
  (repeat' split at h) <;> simp at h <;> grind
theorem famK_ne8 {k : Int} (h : ¬famK k = 0) : parts8 k ≠ [] := fun hp => by
  have := parts8_nil hp
  apply h
  unfold famK
  (repeat' split) <;> omega
theorem bytes_eq (r : Rec) (hk : famK r.kind ≠ 0) : (formL r.kind).flatMap (fun c => ltrW c r) = (parts8 r.kind).flatMap fun p => writeF p.1 r := by
  have hp := famK_ne8 hk
  rcases kinds_cases r.kind with (h | h | h | h | h | h | h | h | h | h | h | h | h | h | h) | h
  all_goals first | (rw [h]; simp [formL, parts8, ltrW, writeF]) | exact absurd (parts8_none h) hp
theorem ltrW_len {c : UInt8} {r : Rec} (hr : r.right) (hw : r.wok) (hc : c ∈ formL r.kind) : (ltrW c r).length ≤ 600 := by
  have hto := right_to hr
  have hok := hr.1
  have u9 : ∀ n : Int, n < 9223372036854775808 → (uintP n).length ≤ 9 := fun n hn => uintP_9 hn
  have ts : ∀ s : ByteArray, s.size = 4 → (textL s).length ≤ 600 := fun s hs => by
    unfold textL
    have := uintL_9 (n := s.size) (by omega)
    rw [List.length_append, size_len]; omega
  unfold ltrW
  split
  · have := u9 r.lo hok.2.1.2; have := u9 _ (wrap_ok (r.hi - r.lo)).2; rw [List.length_append]; omega
  split
  · exact Nat.le_trans (u9 _ hok.2.1.2) (by decide)
  split
  · exact Nat.le_trans (u9 _ hok.2.2.2.1.2) (by decide)
  split
  · rename_i h; subst h
    obtain ⟨a, ha⟩ := right_one4 hr (formL_84 hc)
    have hc : i32ok a := hok.2.2.2.2 a (by rw [ha]; exact List.mem_singleton.2 rfl)
    rw [ha]
    exact Nat.le_trans (u9 a (by unfold i32ok at hc; omega)) (by decide)
  split
  · unfold toL
    have h1 := uints_len r.to hok.2.2.2.2
    have h2 := uintP_9 (n := r.to.length) (by omega)
    rw [List.length_append]; omega
  split
  · rename_i h; subst h; exact ts _ (right_name hr (formL_110 hc))
  split
  · rename_i h; subst h; exact ts _ (right_other hr (formL_111 hc))
  · rw [floatL_len]; decide
theorem strOf_size8 (l : List UInt8) : (strOf l).size = l.length := by rw [← size_len, strOf_list]
theorem w60 (r : Rec) (hr : r.right) (hwt : r.wok) (Q : Ex → Slots → LH → Prop) (hQ : ∀ σ H, OwnAt 1 (bys (recL r)) (Slots.get σ 2) H → Q .ret σ H) : rnC Try.prog b60 Q [(0, .c (Rec.cv r))] [] := by
  unfold b60
  have hok := hr.1
  have hto := right_to hr
  have hfam : famK r.kind ≠ 0 := (right_parts hr).1
  have hrec : recL r = by8 r.kind :: (formL r.kind).flatMap fun c => ltrW c r := by rw [bytes_eq r hfam]; rfl
  have hlw := fun c hc => ltrW_len hr hwt (c := c) hc
  rw [hrec] at hQ
  clear hrec
  simp only [go_sem, ↓reduceIte, Nat.reduceEqDiff, Nat.reduceMul, Nat.reduceAdd, Nat.reduceDiv, Nat.reduceSub, Nat.reduceLT, Nat.reduceLeDiff, Int.reduceLE, Int.reduceLT, Int.reduceToNat, Int.reduceEq]
  refine callK_1 _ (fun _ => cw102 r.kind) (by simp only [go_sem, ↓reduceIte, Nat.reduceEqDiff, Nat.reduceMul, Nat.reduceAdd, Nat.reduceDiv, Nat.reduceSub, Nat.reduceLT, Nat.reduceLeDiff, Int.reduceLE, Int.reduceLT, Int.reduceToNat, Int.reduceEq]) rfl rfl ?_
  simp only [go_sem, ↓reduceIte, Nat.reduceEqDiff, Nat.reduceMul, Nat.reduceAdd, Nat.reduceDiv, Nat.reduceSub, Nat.reduceLT, Nat.reduceLeDiff, Int.reduceLE, Int.reduceLT, Int.reduceToNat, Int.reduceEq]
  repeat (refine ⟨by (first | omega | (intro h1 h2; exact ⟨h1, h2⟩) | (intro h1; omega) | (intro h1; exact h1) | trivial), ?_⟩)
  rw [by8_cv]
  generalize hF : formL r.kind = F at *
  have hF4 : F.length ≤ 4 := by rw [← hF]; unfold formL; (repeat' split) <;> simp
  generalize hB : (fun i : Nat => by8 r.kind :: (F.take i).flatMap fun c => ltrW c r) = B
  have hB0 : B 0 = [by8 r.kind] := by rw [← hB]; simp
  have hBn : B F.length = by8 r.kind :: F.flatMap fun c => ltrW c r := by rw [← hB]; simp
  have hBs : ∀ i (h : i < F.length), B (i + 1) = B i ++ ltrW F[i] r := fun i h => by
    rw [← hB]
    simp only [List.take_add_one, List.getElem?_eq_getElem h, Option.toList_some, List.flatMap_append, List.flatMap_cons, List.flatMap_nil, List.append_nil, List.cons_append]
  rw [bys_one, ← hB0]
  rw [← hBn] at hQ
  have h1 : (1 : Nat) = (B 0).length := by rw [hB0]; rfl
  clear hBn hB
  refine loopR.by (α := Nat) (fun i => [(1, .ref 64 0), (3, .osl 1000003 0 (B i).length), (4, .c (.str (strOf F))), (5, .c (.int .i64 i))]) (fun i => [(1000003, .row 1 (bys (B i))), (64, robj r)]) (fun i => F.length - i) (fun i => i ≤ F.length ∧ (B i).length ≤ 1 + 600 * i) 0 ⟨Nat.zero_le _, by rw [hB0]; simp⟩ ?_ ?_
  · intro Y hY
    simp only [go_sem, ↓reduceIte, Nat.reduceEqDiff, Nat.reduceMul, Nat.reduceAdd, Nat.reduceDiv, Nat.reduceSub, Nat.reduceLT, Nat.reduceLeDiff, Int.reduceLE, Int.reduceLT, Int.reduceToNat, Int.reduceEq, n60_0]
    exact ⟨⟨h1, by simp⟩, hY⟩
  intro i hi Y hY
  obtain ⟨hi, hBl⟩ := hi
  unfold l60_0 robj
  rcases Nat.lt_or_ge i F.length with hil | hig
  · have e8 : u8 (F.getD i 0) = .int .u8 (F[i].toNat : Int) := by rw [List.getD_eq_getElem?_getD, List.getElem?_eq_getElem hil]; rfl
    have hm : F[i] ∈ F := List.getElem_mem hil
    have hwl := hlw F[i] hm
    have hs := hBs i hil
    have hY' := hY (i + 1) ⟨by omega, by rw [hs, List.length_append]; omega⟩ (by omega)
    rw [hs] at hY'
    generalize F[i] = c at e8 hwl hY' hm
    generalize B i = W at hBl hY'
    clear hY
    have hW : W.length ≤ 3000 := by omega
    simp only [go_sem, ↓reduceIte, Nat.reduceEqDiff, Nat.reduceMul, Nat.reduceAdd, Nat.reduceDiv, Nat.reduceSub, Nat.reduceLT, Nat.reduceLeDiff, Int.reduceLE, Int.reduceLT, Int.reduceToNat, Int.reduceEq, n60_0, e8, strOf_size8]
    refine ⟨fun _ => ⟨by omega, ?_⟩, fun h => by omega⟩
    refine ⟨fun h0 => ?_, fun h0 => ?_⟩
    · have hc : c = 83 := UInt8.toNat_inj.1 (by show _ = 83; omega)
      have ew : ltrW c r = ltrW 83 r := by rw [hc]
      have ew : ltrW c r = uintP r.lo ++ uintP (IntKind.i64.wrap (r.hi - r.lo)) := ew
      rw [ew, ← List.append_assoc] at hY'
      have l1 := uintP_9 hok.2.1.2
      have l2 := uintP_9 (wrap_ok (r.hi - r.lo)).2
      refine callK_O 1 (bys (uintP r.lo)) (fun _ => cw59 r.lo hok.2.1.1 hok.2.1.2) (by simp only [go_sem, ↓reduceIte, Nat.reduceEqDiff, Nat.reduceMul, Nat.reduceAdd, Nat.reduceDiv, Nat.reduceSub, Nat.reduceLT, Nat.reduceLeDiff, Int.reduceLE, Int.reduceLT, Int.reduceToNat, Int.reduceEq]) rfl rfl ?_
      simp only [go_sem, ↓reduceIte, Nat.reduceEqDiff, Nat.reduceMul, Nat.reduceAdd, Nat.reduceDiv, Nat.reduceSub, Nat.reduceLT, Nat.reduceLeDiff, Int.reduceLE, Int.reduceLT, Int.reduceToNat, Int.reduceEq]
      repeat (refine ⟨by (first | omega | (intro h1 h2; exact ⟨h1, h2⟩) | (intro h1; omega) | (intro h1; exact h1) | trivial), ?_⟩)
      rw [bys_take, bys_take, bys_app]
      simp only [bys_len]
      refine ⟨by omega, ?_⟩
      refine callK_O 1 (bys (uintP (IntKind.i64.wrap (r.hi - r.lo)))) (fun _ => cw59 _ (wrap_ok (r.hi - r.lo)).1 (wrap_ok (r.hi - r.lo)).2) (by simp only [go_sem, ↓reduceIte, Nat.reduceEqDiff, Nat.reduceMul, Nat.reduceAdd, Nat.reduceDiv, Nat.reduceSub, Nat.reduceLT, Nat.reduceLeDiff, Int.reduceLE, Int.reduceLT, Int.reduceToNat, Int.reduceEq]) rfl rfl ?_
      simp only [go_sem, ↓reduceIte, Nat.reduceEqDiff, Nat.reduceMul, Nat.reduceAdd, Nat.reduceDiv, Nat.reduceSub, Nat.reduceLT, Nat.reduceLeDiff, Int.reduceLE, Int.reduceLT, Int.reduceToNat, Int.reduceEq]
      repeat (refine ⟨by (first | omega | (intro h1 h2; exact ⟨h1, h2⟩) | (intro h1; omega) | (intro h1; exact h1) | trivial), ?_⟩)
      have hcut : List.take (W.length + (uintP r.lo).length) (bys (W ++ uintP r.lo)) = bys (W ++ uintP r.lo) := List.take_of_length_le (by rw [bys_len, List.length_append]; exact Nat.le_refl _)
      rw [hcut, bys_take, bys_app]
      simp only [bys_len, List.length_append]
      simp only [List.length_append] at hY'
      rw [succ64 hil (by omega)]
      exact ⟨by omega, by simp, hY'⟩
    refine ⟨fun h1 => ?_, fun h1 => ?_⟩
    · have hc : c = 76 := UInt8.toNat_inj.1 (by show _ = 76; omega)
      have ew : ltrW c r = ltrW 76 r := by rw [hc]
      have ew : ltrW c r = uintP r.lo := ew
      rw [ew] at hY' hwl
      refine callK_O 1 (bys (uintP r.lo)) (fun _ => cw59 r.lo hok.2.1.1 hok.2.1.2) (by simp only [go_sem, ↓reduceIte, Nat.reduceEqDiff, Nat.reduceMul, Nat.reduceAdd, Nat.reduceDiv, Nat.reduceSub, Nat.reduceLT, Nat.reduceLeDiff, Int.reduceLE, Int.reduceLT, Int.reduceToNat, Int.reduceEq]) rfl rfl ?_
      simp only [go_sem, ↓reduceIte, Nat.reduceEqDiff, Nat.reduceMul, Nat.reduceAdd, Nat.reduceDiv, Nat.reduceSub, Nat.reduceLT, Nat.reduceLeDiff, Int.reduceLE, Int.reduceLT, Int.reduceToNat, Int.reduceEq]
      repeat (refine ⟨by (first | omega | (intro h1 h2; exact ⟨h1, h2⟩) | (intro h1; omega) | (intro h1; exact h1) | trivial), ?_⟩)
      rw [bys_take, bys_take, bys_app]
      simp only [bys_len]
      rw [List.length_append] at hY'
      rw [succ64 hil (by omega)]
      exact ⟨by omega, by simp, hY'⟩
    refine ⟨fun h2 => ?_, fun h2 => ?_⟩
    · have hc : c = 78 := UInt8.toNat_inj.1 (by show _ = 78; omega)
      have ew : ltrW c r = ltrW 78 r := by rw [hc]
      have ew : ltrW c r = uintP r.n := ew
      rw [ew] at hY' hwl
      refine callK_O 1 (bys (uintP r.n)) (fun _ => cw59 r.n hok.2.2.2.1.1 hok.2.2.2.1.2) (by simp only [go_sem, ↓reduceIte, Nat.reduceEqDiff, Nat.reduceMul, Nat.reduceAdd, Nat.reduceDiv, Nat.reduceSub, Nat.reduceLT, Nat.reduceLeDiff, Int.reduceLE, Int.reduceLT, Int.reduceToNat, Int.reduceEq]) rfl rfl ?_
      simp only [go_sem, ↓reduceIte, Nat.reduceEqDiff, Nat.reduceMul, Nat.reduceAdd, Nat.reduceDiv, Nat.reduceSub, Nat.reduceLT, Nat.reduceLeDiff, Int.reduceLE, Int.reduceLT, Int.reduceToNat, Int.reduceEq]
      repeat (refine ⟨by (first | omega | (intro h1 h2; exact ⟨h1, h2⟩) | (intro h1; omega) | (intro h1; exact h1) | trivial), ?_⟩)
      rw [bys_take, bys_take, bys_app]
      simp only [bys_len]
      rw [List.length_append] at hY'
      rw [succ64 hil (by omega)]
      exact ⟨by omega, by simp, hY'⟩
    refine ⟨fun h3 => ?_, fun h3 => ?_⟩
    · have hc : c = 84 := UInt8.toNat_inj.1 (by show _ = 84; omega)
      have ew : ltrW c r = ltrW 84 r := by rw [hc]
      obtain ⟨a0, ha⟩ := right_one4 hr (formL_84 (by rw [hF, ← hc]; exact hm))
      have hca : i32ok a0 := hok.2.2.2.2 a0 (by rw [ha]; exact List.mem_singleton.2 rfl)
      unfold i32ok at hca
      have e1 : (runes r.to).getD 0 .undef = .int .i32 a0 := by rw [ha]; rfl
      have e2 : IntKind.i64.wrap a0 = a0 := by rw [wrap_i64]; omega
      have hl1 : r.to.length = 1 := by rw [ha]; rfl
      have ew : ltrW c r = uintP a0 := by rw [ew]; show uintP (r.to.getD 0 0) = _; rw [ha]; rfl
      simp only [go_sem, ↓reduceIte, Nat.reduceEqDiff, Nat.reduceMul, Nat.reduceAdd, Nat.reduceDiv, Nat.reduceSub, Nat.reduceLT, Nat.reduceLeDiff, Int.reduceLE, Int.reduceLT, Int.reduceToNat, Int.reduceEq, e1, e2]
      refine ⟨by omega, ?_⟩
      rw [ew] at hY' hwl
      refine callK_O 1 (bys (uintP a0)) (fun _ => cw59 a0 (by omega) (by omega)) (by simp only [go_sem, ↓reduceIte, Nat.reduceEqDiff, Nat.reduceMul, Nat.reduceAdd, Nat.reduceDiv, Nat.reduceSub, Nat.reduceLT, Nat.reduceLeDiff, Int.reduceLE, Int.reduceLT, Int.reduceToNat, Int.reduceEq]) rfl rfl ?_
      simp only [go_sem, ↓reduceIte, Nat.reduceEqDiff, Nat.reduceMul, Nat.reduceAdd, Nat.reduceDiv, Nat.reduceSub, Nat.reduceLT, Nat.reduceLeDiff, Int.reduceLE, Int.reduceLT, Int.reduceToNat, Int.reduceEq]
      repeat (refine ⟨by (first | omega | (intro h1 h2; exact ⟨h1, h2⟩) | (intro h1; omega) | (intro h1; exact h1) | trivial), ?_⟩)
      rw [bys_take, bys_take, bys_app]
      simp only [bys_len]
      rw [List.length_append] at hY'
      rw [succ64 hil (by omega)]
      exact ⟨by omega, by simp, hY'⟩
    refine ⟨fun h4 => ?_, fun h4 => ?_⟩
    · have hc : c = 120 := UInt8.toNat_inj.1 (by show _ = 120; omega)
      have ew : ltrW c r = ltrW 120 r := by rw [hc]
      have ew : ltrW c r = toL r.to := ew
      rw [ew] at hY' hwl
      unfold toL at hY' hwl
      refine callK_O 1 (bys (uintP r.to.length)) (fun _ => cw59 r.to.length (by omega) (by omega)) (by simp only [go_sem, ↓reduceIte, Nat.reduceEqDiff, Nat.reduceMul, Nat.reduceAdd, Nat.reduceDiv, Nat.reduceSub, Nat.reduceLT, Nat.reduceLeDiff, Int.reduceLE, Int.reduceLT, Int.reduceToNat, Int.reduceEq]) rfl rfl ?_
      simp only [go_sem, ↓reduceIte, Nat.reduceEqDiff, Nat.reduceMul, Nat.reduceAdd, Nat.reduceDiv, Nat.reduceSub, Nat.reduceLT, Nat.reduceLeDiff, Int.reduceLE, Int.reduceLT, Int.reduceToNat, Int.reduceEq]
      repeat (refine ⟨by (first | omega | (intro h1 h2; exact ⟨h1, h2⟩) | (intro h1; omega) | (intro h1; exact h1) | trivial), ?_⟩)
      have l1 := uintP_9 (n := (r.to.length : Int)) (by omega)
      rw [bys_take, bys_take, bys_app]
      simp only [bys_len]
      refine ⟨by omega, ?_⟩
      rw [← List.append_assoc] at hY'
      have eV : W.length + (uintP (r.to.length : Int)).length = (W ++ uintP (r.to.length : Int)).length := List.length_append.symm
      rw [eV]
      generalize hV : W ++ uintP (r.to.length : Int) = V at *
      have hVl : V.length ≤ 100000 := by rw [← hV, List.length_append]; omega
      clear hV eV
      refine loopR.by (α := Nat) (fun k => [(1, .ref 64 0), (3, .osl 1000003 0 (V ++ ((r.to.take k).map uintP).flatten).length), (4, .c (.str (strOf F))), (5, .c (.int .i64 i)), (6, .c (.int .i64 k))]) (fun k => [(1000003, .row 1 (bys (V ++ ((r.to.take k).map uintP).flatten))), (64, robj r)]) (fun k => r.to.length - k) (fun k => k ≤ r.to.length) 0 (Nat.zero_le _) ?_ ?_
      · intro Z hZ
        simp only [List.take_zero, List.map_nil, List.flatten_nil, List.append_nil] at hZ
        simp only [go_sem, ↓reduceIte, Nat.reduceEqDiff, Nat.reduceMul, Nat.reduceAdd, Nat.reduceDiv, Nat.reduceSub, Nat.reduceLT, Nat.reduceLeDiff, Int.reduceLE, Int.reduceLT, Int.reduceToNat, Int.reduceEq, n60_1]
        exact ⟨by simp, hZ⟩
      intro k hk Z hZ
      unfold l60_1 robj
      rcases Nat.lt_or_ge k r.to.length with hkl | hkg
      · obtain ⟨t, et, htm, htd⟩ := runes_at hkl
        have hct := hok.2.2.2.2 t htm
        unfold i32ok at hct
        have e2 : IntKind.i64.wrap t = t := by rw [wrap_i64]; omega
        have l9 := uintP_9 (n := t) (by omega)
        have hx : r.to.take (k + 1) = r.to.take k ++ [t] := by
          rw [List.take_add_one]
          have : r.to[k]? = some t := by rw [← List.head?_drop, htd]; rfl
          rw [this]; rfl
        have hul := uints_len (r.to.take k) fun x hx => hok.2.2.2.2 x (List.mem_of_mem_take hx)
        have hli : (r.to.take k).length ≤ 24 := by rw [List.length_take]; omega
        have hz : V ++ ((r.to.take (k + 1)).map uintP).flatten = (V ++ ((r.to.take k).map uintP).flatten) ++ uintP t := by
          rw [hx]; simp
        have hZ' := hZ (k + 1) (by omega) (by omega)
        rw [hz] at hZ'
        have hXl : (V ++ ((r.to.take k).map uintP).flatten).length ≤ 101000 := by rw [List.length_append]; omega
        generalize V ++ ((r.to.take k).map uintP).flatten = X at hZ' hXl
        simp only [go_sem, ↓reduceIte, Nat.reduceEqDiff, Nat.reduceMul, Nat.reduceAdd, Nat.reduceDiv, Nat.reduceSub, Nat.reduceLT, Nat.reduceLeDiff, Int.reduceLE, Int.reduceLT, Int.reduceToNat, Int.reduceEq, n60_1, et, e2]
        refine ⟨fun _ => ⟨by omega, ?_⟩, fun h => by omega⟩
        refine callK_O 1 (bys (uintP t)) (fun _ => cw59 t (by omega) (by omega)) (by simp only [go_sem, ↓reduceIte, Nat.reduceEqDiff, Nat.reduceMul, Nat.reduceAdd, Nat.reduceDiv, Nat.reduceSub, Nat.reduceLT, Nat.reduceLeDiff, Int.reduceLE, Int.reduceLT, Int.reduceToNat, Int.reduceEq]) rfl rfl ?_
        simp only [go_sem, ↓reduceIte, Nat.reduceEqDiff, Nat.reduceMul, Nat.reduceAdd, Nat.reduceDiv, Nat.reduceSub, Nat.reduceLT, Nat.reduceLeDiff, Int.reduceLE, Int.reduceLT, Int.reduceToNat, Int.reduceEq]
        repeat (refine ⟨by (first | omega | (intro h1 h2; exact ⟨h1, h2⟩) | (intro h1; omega) | (intro h1; exact h1) | trivial), ?_⟩)
        rw [bys_take, bys_take, bys_app, succ64 hkl (by omega)]
        simp only [bys_len]
        rw [List.length_append] at hZ'
        exact ⟨by omega, by simp, hZ'⟩
      · have : k = r.to.length := by omega
        subst this
        have et : (runes r.to).getD r.to.length .undef = .undef := by
          rw [List.getD_eq_getElem?_getD, List.getElem?_eq_none (by rw [runes_len]; omega)]; rfl
        rw [List.take_length]
        simp only [go_sem, ↓reduceIte, Nat.reduceEqDiff, Nat.reduceMul, Nat.reduceAdd, Nat.reduceDiv, Nat.reduceSub, Nat.reduceLT, Nat.reduceLeDiff, Int.reduceLE, Int.reduceLT, Int.reduceToNat, Int.reduceEq, n60_1, et]
        refine ⟨fun h => by omega, fun _ => ?_⟩
        rw [succ64 hil (by omega)]
        rw [List.length_append] at hY'
        exact ⟨by simp, hY'⟩
    refine ⟨fun h5 => ?_, fun h5 => ?_⟩
    · have hc : c = 110 := UInt8.toNat_inj.1 (by show _ = 110; omega)
      have ew : ltrW c r = ltrW 110 r := by rw [hc]
      have hsz : r.name.size = 4 := right_name hr (formL_110 (by rw [hF, ← hc]; exact hm))
      have ew : ltrW c r = textL r.name := ew
      rw [ew] at hY' hwl
      refine callK_O 1 (bys (textL r.name)) (fun _ => cw103 r.name (by omega)) (by simp only [go_sem, ↓reduceIte, Nat.reduceEqDiff, Nat.reduceMul, Nat.reduceAdd, Nat.reduceDiv, Nat.reduceSub, Nat.reduceLT, Nat.reduceLeDiff, Int.reduceLE, Int.reduceLT, Int.reduceToNat, Int.reduceEq]) rfl rfl ?_
      simp only [go_sem, ↓reduceIte, Nat.reduceEqDiff, Nat.reduceMul, Nat.reduceAdd, Nat.reduceDiv, Nat.reduceSub, Nat.reduceLT, Nat.reduceLeDiff, Int.reduceLE, Int.reduceLT, Int.reduceToNat, Int.reduceEq]
      repeat (refine ⟨by (first | omega | (intro h1 h2; exact ⟨h1, h2⟩) | (intro h1; omega) | (intro h1; exact h1) | trivial), ?_⟩)
      rw [bys_take, bys_take, bys_app]
      simp only [bys_len]
      rw [List.length_append] at hY'
      rw [succ64 hil (by omega)]
      exact ⟨by omega, by simp, hY'⟩
    refine ⟨fun h6 => ?_, fun h6 => ?_⟩
    · have hc : c = 111 := UInt8.toNat_inj.1 (by show _ = 111; omega)
      have ew : ltrW c r = ltrW 111 r := by rw [hc]
      have hsz : r.other.size = 4 := right_other hr (formL_111 (by rw [hF, ← hc]; exact hm))
      have ew : ltrW c r = textL r.other := ew
      rw [ew] at hY' hwl
      refine callK_O 1 (bys (textL r.other)) (fun _ => cw103 r.other (by omega)) (by simp only [go_sem, ↓reduceIte, Nat.reduceEqDiff, Nat.reduceMul, Nat.reduceAdd, Nat.reduceDiv, Nat.reduceSub, Nat.reduceLT, Nat.reduceLeDiff, Int.reduceLE, Int.reduceLT, Int.reduceToNat, Int.reduceEq]) rfl rfl ?_
      simp only [go_sem, ↓reduceIte, Nat.reduceEqDiff, Nat.reduceMul, Nat.reduceAdd, Nat.reduceDiv, Nat.reduceSub, Nat.reduceLT, Nat.reduceLeDiff, Int.reduceLE, Int.reduceLT, Int.reduceToNat, Int.reduceEq]
      repeat (refine ⟨by (first | omega | (intro h1 h2; exact ⟨h1, h2⟩) | (intro h1; omega) | (intro h1; exact h1) | trivial), ?_⟩)
      rw [bys_take, bys_take, bys_app]
      simp only [bys_len]
      rw [List.length_append] at hY'
      rw [succ64 hil (by omega)]
      exact ⟨by omega, by simp, hY'⟩
    have ew : ltrW c r = floatL r.weight := by unfold ltrW; rw [if_neg (by intro h; rw [h] at h0; exact h0 (by decide)), if_neg (by intro h; rw [h] at h1; exact h1 (by decide)), if_neg (by intro h; rw [h] at h2; exact h2 (by decide)), if_neg (by intro h; rw [h] at h3; exact h3 (by decide)), if_neg (by intro h; rw [h] at h4; exact h4 (by decide)), if_neg (by intro h; rw [h] at h5; exact h5 (by decide)), if_neg (by intro h; rw [h] at h6; exact h6 (by decide))]
    rw [ew] at hY' hwl
    refine callK_1 _ (fun _ => cw69 r.weight) (by simp only [go_sem, ↓reduceIte, Nat.reduceEqDiff, Nat.reduceMul, Nat.reduceAdd, Nat.reduceDiv, Nat.reduceSub, Nat.reduceLT, Nat.reduceLeDiff, Int.reduceLE, Int.reduceLT, Int.reduceToNat, Int.reduceEq]) rfl rfl ?_
    simp only [go_sem, ↓reduceIte, Nat.reduceEqDiff, Nat.reduceMul, Nat.reduceAdd, Nat.reduceDiv, Nat.reduceSub, Nat.reduceLT, Nat.reduceLeDiff, Int.reduceLE, Int.reduceLT, Int.reduceToNat, Int.reduceEq]
    repeat (refine ⟨by (first | omega | (intro h1 h2; exact ⟨h1, h2⟩) | (intro h1; omega) | (intro h1; exact h1) | trivial), ?_⟩)
    refine callK_O 1 (bys (floatL r.weight)) (fun _ => cw104 r.weight hwt) (by simp only [go_sem, ↓reduceIte, Nat.reduceEqDiff, Nat.reduceMul, Nat.reduceAdd, Nat.reduceDiv, Nat.reduceSub, Nat.reduceLT, Nat.reduceLeDiff, Int.reduceLE, Int.reduceLT, Int.reduceToNat, Int.reduceEq]) rfl rfl ?_
    simp only [go_sem, ↓reduceIte, Nat.reduceEqDiff, Nat.reduceMul, Nat.reduceAdd, Nat.reduceDiv, Nat.reduceSub, Nat.reduceLT, Nat.reduceLeDiff, Int.reduceLE, Int.reduceLT, Int.reduceToNat, Int.reduceEq]
    repeat (refine ⟨by (first | omega | (intro h1 h2; exact ⟨h1, h2⟩) | (intro h1; omega) | (intro h1; exact h1) | trivial), ?_⟩)
    rw [bys_take, bys_take, bys_app]
    simp only [bys_len]
    rw [List.length_append] at hY'
    rw [succ64 hil (by omega)]
    exact ⟨by omega, by simp, hY'⟩
  · have : i = F.length := by omega
    subst this
    have e8 : u8 (F.getD F.length 0) = .int .u8 0 := by rw [List.getD_eq_getElem?_getD, List.getElem?_eq_none (Nat.le_refl _)]; rfl
    simp only [go_sem, ↓reduceIte, Nat.reduceEqDiff, Nat.reduceMul, Nat.reduceAdd, Nat.reduceDiv, Nat.reduceSub, Nat.reduceLT, Nat.reduceLeDiff, Int.reduceLE, Int.reduceLT, Int.reduceToNat, Int.reduceEq, n60_0, e8, strOf_size8]
    exact ⟨fun h => by omega, fun _ => hQ _ _ (own_at rfl (bys_len _).symm rfl)⟩
theorem cw60 (r : Rec) (hr : r.right) (hwt : r.wok) : CW Try.prog 60 [.cv (Rec.cv r)] ⟨[.own 1 (bys (recL r))], []⟩ :=
  top60 rfl rfl [] trivial (w60 r hr hwt _ fun σ H h => retO rfl h)
end Go.Proofs.Ytcpdnpaedkcebaa.V
namespace Go.Proofs.Ytcpdnpaedkcebaa.V
open Go Go.RowKit
set_option linter.unusedVariables false
set_option linter.unusedSimpArgs false
set_option maxRecDepth 100000
def l37_0 : IC := (.seq (.reg [⟨(some 67), 0, none, .bin .lss (.t 66) (.t 65)⟩]) (.seq (.cond (.t 67) .skip (.exit 0)) (.seq (.block 1 (.seq (.reg [⟨(some 68), 0, none, .mv (.t 12)⟩,
  ⟨(some 69), 0, none, .mv (.t 7)⟩,
  ⟨(some 70), 0, none, .nck (.t 69)⟩,
  ⟨(some 71), 0, none, .fa (.t 70) 1⟩,
  ⟨(some 72), 0, none, .ld (.t 71) none⟩,
  ⟨(some 73), 22, none, .bsl 1 [(.t 72)]⟩,
  ⟨(some 74), 23, none, .app (.t 68) (.t 73) 1 8 false⟩,
  ⟨(some 12), 0, none, .mv (.t 74)⟩]) (.seq (.reg [⟨(some 75), 0, none, .mv (.t 7)⟩,
  ⟨(some 76), 24, none, .call (.c (.fn 65)) [((.t 75), .ptr [none, none, none])]⟩,
  ⟨(some 13), 34, none, .alloc [(.int .i64 0), (.int .i64 0), (.int .i64 0), (.int .i64 0), .nilsl, (.str ⟨#[]⟩), (.str ⟨#[]⟩), (.flt 0)]⟩,
  ⟨none, 0, none, .st (.t 13) (.t 76) (some 8)⟩]) (.seq (.seq (.reg [⟨(some 77), 0, none, .mv (.t 7)⟩,
  ⟨(some 78), 0, none, .nck (.t 77)⟩,
  ⟨(some 79), 0, none, .fa (.t 78) 2⟩,
  ⟨(some 80), 0, none, .ld (.t 79) none⟩,
  ⟨(some 81), 0, none, .bin .neq (.t 80) (.c (.int .i64 0))⟩]) (.cond (.t 81) (.seq (.draw (.take 0 ⟨(some 82), 0, none, .mv (.t 7)⟩ (.take 1 ⟨(some 83), 0, none, .nck (.t 82)⟩ (.take 2 ⟨(some 84), 0, none, .fa (.t 83) 1⟩ (.take 3 ⟨(some 85), 0, none, .ld (.t 84) none⟩ (.take 4 ⟨(some 86), 0, none, .mv (.t 7)⟩ (.take 5 ⟨(some 87), 0, none, .nck (.t 86)⟩ (.take 6 ⟨(some 88), 0, none, .fa (.t 87) 2⟩ (.take 7 ⟨(some 89), 0, none, .ld (.t 88) none⟩ (.take 8 ⟨(some 2), 0, none, .mv (.c .nilsl)⟩ (.take 9 ⟨(some 3), 0, none, .mv (.t 85)⟩ (.take 10 ⟨(some 4), 0, none, .mv (.t 89)⟩ .done)))))))))))) .ret) .skip)) (.reg [⟨(some 90), 0, none, .mv (.t 11)⟩,
  ⟨(some 91), 0, none, .ld (.t 13) (some 8)⟩,
  ⟨(some 92), 35, none, .bsl 8 [(.t 91)]⟩,
  ⟨(some 93), 36, none, .app (.t 90) (.t 92) 8 96 false⟩,
  ⟨(some 11), 0, none, .mv (.t 93)⟩]))))) (.reg [⟨(some 94), 0, none, .bin .add (.t 66) (.c (.int .i64 1))⟩,
  ⟨(some 66), 0, none, .mv (.t 94)⟩]))))
def n37_0 : Norm := ⟨[(7, .plain), (11, .own 8 1000011), (12, .own 1 1000012), (65, .plain), (66, .plain)], [(704, [.plain, .plain, .plain])]⟩
def b37 : IC := (.seq (.reg [⟨(some 2), 0, none, .mv (.c .nilsl)⟩,
  ⟨(some 3), 0, none, .mv (.c (.int .i64 0))⟩,
  ⟨(some 4), 0, none, .mv (.c (.int .i64 0))⟩]) (.seq (.seq (.reg [⟨(some 17), 0, none, .mv (.t 0)⟩,
  ⟨(some 18), 1, none, .call (.c (.fn 63)) [((.t 17), .view 1)]⟩,
  ⟨(some 16), 0, none, .mv (.t 18)⟩,
  ⟨(some 19), 0, none, .ext (.t 16) 0⟩,
  ⟨(some 20), 0, none, .ext (.t 16) 1⟩,
  ⟨(some 5), 0, none, .mv (.t 19)⟩,
  ⟨(some 6), 0, none, .mv (.t 20)⟩]) (.seq (.reg [⟨(some 21), 0, none, .mv (.t 6)⟩,
  ⟨(some 22), 0, none, .bin .neq (.t 21) (.c (.int .i64 0))⟩]) (.cond (.t 22) (.seq (.reg [⟨(some 23), 0, none, .mv (.t 5)⟩,
  ⟨(some 24), 0, none, .mv (.t 6)⟩,
  ⟨(some 2), 0, none, .mv (.c .nilsl)⟩,
  ⟨(some 3), 0, none, .mv (.t 23)⟩,
  ⟨(some 4), 0, none, .mv (.t 24)⟩]) .ret) .skip))) (.seq (.reg [⟨(some 25), 0, none, .mv (.t 0)⟩,
  ⟨(some 26), 0, none, .mv (.t 0)⟩,
  ⟨(some 27), 0, none, .len false (.t 26)⟩,
  ⟨(some 28), 0, none, .bin .sub (.t 27) (.c (.int .i64 4))⟩,
  ⟨(some 29), 0, none, .mv (.t 0)⟩,
  ⟨(some 30), 0, none, .len false (.t 29)⟩,
  ⟨(some 31), 0, none, .bin .sub (.t 30) (.c (.int .i64 4))⟩,
  ⟨(some 32), 0, none, .slc (.t 25) none (some (.t 28)) (some (.t 31)) 1⟩,
  ⟨(some 33), 0, none, .bld [.nilsl, (.int .i64 0), (.int .i64 0)] [(0, (.t 32)), (1, (.c (.int .i64 5)))]⟩,
  ⟨(some 34), 11, none, .box (.t 33)⟩,
  ⟨(some 7), 0, none, .mv (.t 34)⟩]) (.seq (.draw (.take 0 ⟨(some 36), 0, none, .mv (.t 7)⟩ (.take 1 ⟨(some 37), 0, none, .nck (.t 36)⟩ (.take 2 ⟨(some 38), 0, none, .fa (.t 37) 0⟩ (.take 3 ⟨(some 39), 0, none, .ld (.t 38) none⟩ (.take 4 ⟨(some 40), 0, none, .mv (.t 7)⟩ (.take 5 ⟨(some 41), 0, none, .nck (.t 40)⟩ (.take 6 ⟨(some 42), 0, none, .fa (.t 41) 1⟩ (.take 7 ⟨(some 43), 0, none, .ld (.t 42) none⟩ (.br 8 ⟨(some 44), 12, none, .call (.c (.fn 64)) [((.t 39), .view 1), ((.t 43), .plain)]⟩ [false, true, true, true, false, true, true, true] (.take 9 ⟨(some 35), 0, none, .mv (.t 44)⟩ (.take 10 ⟨(some 45), 0, none, .ext (.t 35) 0⟩ (.take 11 ⟨(some 46), 0, none, .ext (.t 35) 1⟩ (.take 12 ⟨(some 47), 0, none, .ext (.t 35) 2⟩ (.take 13 ⟨(some 8), 0, none, .mv (.t 45)⟩ (.take 14 ⟨(some 9), 0, none, .mv (.t 46)⟩ (.take 15 ⟨(some 10), 0, none, .mv (.t 47)⟩ .done))))))) .no)))))))))) (.seq (.seq (.reg [⟨(some 48), 0, none, .mv (.t 10)⟩,
  ⟨(some 49), 0, none, .bin .neq (.t 48) (.c (.int .i64 0))⟩]) (.cond (.t 49) (.seq (.draw (.take 0 ⟨(some 50), 0, none, .mv (.t 7)⟩ (.take 1 ⟨(some 51), 0, none, .nck (.t 50)⟩ (.take 2 ⟨(some 52), 0, none, .fa (.t 51) 1⟩ (.take 3 ⟨(some 53), 0, none, .ld (.t 52) none⟩ (.take 4 ⟨(some 54), 0, none, .mv (.t 10)⟩ (.take 5 ⟨(some 2), 0, none, .mv (.c .nilsl)⟩ (.take 6 ⟨(some 3), 0, none, .mv (.t 53)⟩ (.take 7 ⟨(some 4), 0, none, .mv (.t 54)⟩ .done))))))))) .ret) .skip)) (.seq (.seq (.reg [⟨(some 55), 0, none, .mv (.t 8)⟩,
  ⟨(some 56), 0, none, .bin .gtr (.t 55) (.c (.int .i64 4096))⟩]) (.cond (.t 56) (.seq (.draw (.take 0 ⟨(some 57), 0, none, .mv (.t 7)⟩ (.take 1 ⟨(some 58), 0, none, .nck (.t 57)⟩ (.take 2 ⟨(some 59), 0, none, .fa (.t 58) 1⟩ (.take 3 ⟨(some 60), 0, none, .ld (.t 59) none⟩ (.take 4 ⟨(some 2), 0, none, .mv (.c .nilsl)⟩ (.take 5 ⟨(some 3), 0, none, .mv (.t 60)⟩ (.take 6 ⟨(some 4), 0, none, .mv (.c (.int .i64 3))⟩ .done)))))))) .ret) .skip)) (.seq (.reg [⟨(some 61), 0, none, .mv (.t 7)⟩,
  ⟨(some 62), 0, none, .mv (.t 9)⟩,
  ⟨(some 63), 0, none, .nck (.t 61)⟩,
  ⟨(some 64), 0, none, .fa (.t 63) 1⟩,
  ⟨none, 0, none, .st (.t 64) (.t 62) none⟩]) (.seq (.reg [⟨(some 11), 0, none, .mv (.c .nilsl)⟩]) (.seq (.reg [⟨(some 12), 0, none, .mv (.c .nilsl)⟩]) (.seq (.seq (.reg [⟨(some 65), 0, none, .mv (.t 8)⟩,
  ⟨(some 66), 0, none, .mv (.c (.int .i64 0))⟩]) (.block 0 (.loop n37_0 l37_0))) (.seq (.seq (.draw (.take 0 ⟨(some 95), 0, none, .mv (.t 7)⟩ (.take 1 ⟨(some 96), 0, none, .nck (.t 95)⟩ (.take 2 ⟨(some 97), 0, none, .fa (.t 96) 1⟩ (.take 3 ⟨(some 98), 0, none, .ld (.t 97) none⟩ (.take 4 ⟨(some 99), 0, none, .mv (.t 7)⟩ (.take 5 ⟨(some 100), 0, none, .nck (.t 99)⟩ (.take 6 ⟨(some 101), 0, none, .fa (.t 100) 0⟩ (.take 7 ⟨(some 102), 0, none, .ld (.t 101) none⟩ (.take 8 ⟨(some 103), 0, none, .len false (.t 102)⟩ (.take 9 ⟨(some 104), 0, none, .bin .lss (.t 98) (.t 103)⟩ .done))))))))))) (.cond (.t 104) (.seq (.draw (.take 0 ⟨(some 105), 0, none, .mv (.t 7)⟩ (.take 1 ⟨(some 106), 0, none, .nck (.t 105)⟩ (.take 2 ⟨(some 107), 0, none, .fa (.t 106) 1⟩ (.take 3 ⟨(some 108), 0, none, .ld (.t 107) none⟩ (.take 4 ⟨(some 2), 0, none, .mv (.c .nilsl)⟩ (.take 5 ⟨(some 3), 0, none, .mv (.t 108)⟩ (.take 6 ⟨(some 4), 0, none, .mv (.c (.int .i64 14))⟩ .done)))))))) .ret) .skip)) (.seq (.seq (.reg [⟨(some 110), 0, none, .mv (.t 11)⟩,
  ⟨(some 111), 37, none, .call (.c (.fn 30)) [((.t 110), .view 8)]⟩,
  ⟨(some 109), 0, none, .mv (.t 111)⟩,
  ⟨(some 112), 0, none, .ext (.t 109) 0⟩,
  ⟨(some 113), 0, none, .ext (.t 109) 1⟩,
  ⟨(some 14), 0, none, .mv (.t 112)⟩,
  ⟨(some 15), 0, none, .mv (.t 113)⟩]) (.seq (.reg [⟨(some 114), 0, none, .mv (.t 15)⟩,
  ⟨(some 115), 0, none, .bin .neq (.t 114) (.c (.int .i64 0))⟩]) (.cond (.t 115) (.seq (.draw (.take 0 ⟨(some 116), 0, none, .mv (.t 12)⟩ (.take 1 ⟨(some 117), 0, none, .mv (.t 14)⟩ (.take 2 ⟨(some 118), 0, none, .ia (.t 116) (.t 117) 1⟩ (.take 3 ⟨(some 119), 0, none, .ld (.t 118) none⟩ (.take 4 ⟨(some 120), 0, none, .mv (.t 15)⟩ (.take 5 ⟨(some 2), 0, none, .mv (.c .nilsl)⟩ (.take 6 ⟨(some 3), 0, none, .mv (.t 119)⟩ (.take 7 ⟨(some 4), 0, none, .mv (.t 120)⟩ .done))))))))) .ret) .skip))) (.seq (.reg [⟨(some 121), 0, none, .mv (.t 11)⟩,
  ⟨(some 2), 0, none, .mv (.t 121)⟩,
  ⟨(some 3), 0, none, .mv (.c (.int .i64 0))⟩,
  ⟨(some 4), 0, none, .mv (.c (.int .i64 0))⟩]) .ret)))))))))))))
def rs37 : List (Nat × Option Nat × Mode) := [(2, none, .move 8), (3, none, .plain), (4, none, .plain)]
theorem chk37 : chkC Try.prog Try.f37.ntmps b37 (Try.f37.body.getD .skip) = true := by decide +kernel
theorem top37 {args : List Arg} {out : Out} (ha : args.length.ble Try.f37.ntmps = true) (h8 : args.length.ble 8 = true) (mss : List (List (Option Nat))) (hb : backOK args out.back)
    (hw : rnC Try.prog b37 (topQ rs37 args mss out) (slotsOf (argsAV argBase args 0) 0) (argsOb argBase args 0)) : CW Try.prog 37 args out :=
  CW.of Try.func37 rs37 mss (by decide +kernel) (by decide +kernel) (by decide +kernel) ha h8 chk37 hb hw
theorem readsF_spec (b : List UInt8) {k : Int} : ∀ (l : List (Nat × Nat)) (s : Int × Int) (r : Rec), (∀ p ∈ l, p ∈ parts8 k) → (0 ≤ s.1 ∧ s.1 ≤ b.length) → r.fine →
    (0 ≤ (readsF b l s r).1.1 ∧ (readsF b l s r).1.1 ≤ b.length) ∧ (readsF b l s r).2.to.length ≤ r.to.length + 24 * l.length ∧ (readsF b l s r).2.fine
  | [], s, r, _, hs, hr => ⟨hs, Nat.le_add_right _ _, hr⟩
  | p :: l, s, r, hl, hs, hr => by
    rw [readsF]
    obtain ⟨q1, q2, q3⟩ := readF_spec (hl p List.mem_cons_self) b s r hs hr
    obtain ⟨t1, t2, t3⟩ := readsF_spec b l _ _ (fun x hx => hl x (List.mem_cons_of_mem _ hx)) q1 q3
    refine ⟨t1, ?_, t3⟩
    simp only [List.length_cons]
    omega
def recR (b : List UInt8) (a : Int) : Rec := (readsF b (parts8 (kindAt b a)) (a + 1, 0) (zeroR (kindAt b a))).2
theorem kind_fine (b : List UInt8) (a : Int) : (zeroR (kindAt b a)).fine := by
  have := (b.getD a.toNat 0).toNat_lt
  refine ⟨⟨by unfold kindAt zeroR i64ok; simp only; omega, by simp [zeroR, i64ok], by simp [zeroR, i64ok], by simp [zeroR, i64ok], by simp [zeroR]⟩, by simp [zeroR]⟩
theorem recS_spec (b : List UInt8) (a : Int) (hs : 0 ≤ a ∧ a ≤ b.length) : (0 ≤ (recS b a).1 ∧ (recS b a).1 ≤ b.length) ∧ (recR b a).to.length ≤ 96 ∧ (recR b a).fine ∧ ((recS b a).2 = 0 → recC b a = (recR b a).cv) := by
  unfold recS recC
  by_cases h : a = b.length
  · have hx := readsF_spec b (k := kindAt b a) (parts8 (kindAt b a)) (a, 0) (zeroR (kindAt b a)) (fun _ h => h) hs (kind_fine b a)
    rw [if_pos h]
    have h0 : kindAt b a = 0 := by
      unfold kindAt
      rw [List.getD_eq_getElem?_getD, List.getElem?_eq_none (by omega)]; rfl
    have hp : parts8 (kindAt b a) = [] := by rw [h0]; decide
    refine ⟨hs, ?_, ?_, fun h => by simp at h⟩
    · unfold recR; rw [hp]; simp [readsF, zeroR]
    · unfold recR; rw [hp]; exact kind_fine b a
  · rw [if_neg h, if_neg h]
    have h4 : (parts8 (kindAt b a)).length ≤ 4 := by unfold parts8; (repeat' split) <;> simp
    obtain ⟨t1, t2, t3⟩ := readsF_spec b (k := kindAt b a) (parts8 (kindAt b a)) (a + 1, 0) (zeroR (kindAt b a)) (fun _ h => h) (by simp only; omega) (kind_fine b a)
    have t2' : (recR b a).to.length ≤ 96 := by
      have : (zeroR (kindAt b a)).to.length = 0 := rfl
      unfold recR; omega
    by_cases hp : parts8 (kindAt b a) = []
    · rw [if_pos hp, if_pos hp]
      exact ⟨hs, t2', t3, fun h => by simp at h⟩
    · rw [if_neg hp, if_neg hp]
      exact ⟨t1, t2', t3, fun _ => rfl⟩
def unpGo (c : List UInt8) : Nat → Int → List Int → List Rec → Except (Int × Int) (Int × List Int × List Rec)
  | 0, a, ps, l => .ok (a, ps, l)
  | k + 1, a, ps, l => if (recS c a).2 ≠ 0 then .error (recS c a) else unpGo c k (recS c a).1 (ps ++ [a]) (l ++ [recR c a])
def unpackF (b : List UInt8) : List Rec × Int × Int :=
  if (headF b).2 ≠ 0 then ([], headF b) else
  if (rdU (b.take (b.length - 4)) 5).2.2 ≠ 0 then ([], 5, (rdU (b.take (b.length - 4)) 5).2.2) else
  if 4096 < (rdU (b.take (b.length - 4)) 5).1 then ([], 5, 3) else
  match unpGo (b.take (b.length - 4)) (rdU (b.take (b.length - 4)) 5).1.toNat (rdU (b.take (b.length - 4)) 5).2.1 [] [] with
  | .error x => ([], x)
  | .ok (a, ps, l) =>
    if a < ((b.length - 4 : Nat) : Int) then ([], a, 14) else
    if (checkP l).2 ≠ 0 then ([], ps.getD (checkP l).1.toNat 0, (checkP l).2) else (l, 0, 0)
theorem head_len {b : List UInt8} (h : (headF b).2 = 0) : 10 ≤ b.length ∧ b.length ≤ 262144 := by
  unfold headF at h
  split at h
  · simp at h
  · split at h
    · simp at h
    · omega
theorem rights_at : ∀ (l : List Rec) (i : Int) (x : Int × Int), rightsP l i = some x → i ≤ x.1 ∧ x.1 < i + l.length
  | r :: l, i, x, h => by
    rw [rightsP] at h
    split at h
    · cases h; simp only [List.length_cons]; omega
    · have := rights_at l _ x h; simp only [List.length_cons]; omega
theorem twice_at : ∀ (l p : List Rec) (i x : Int), twiceP p l i = some x → i ≤ x ∧ x < i + l.length
  | r :: l, p, i, x, h => by
    rw [twiceP] at h
    split at h
    · cases h; simp only [List.length_cons]; omega
    · have := twice_at l _ _ x h; simp only [List.length_cons]; omega
theorem check_at {l : List Rec} (hl : l.length ≤ 4096) (h : (checkP l).2 ≠ 0) : 0 ≤ (checkP l).1 ∧ (checkP l).1 < l.length := by
  unfold checkP at h ⊢
  rw [if_neg (by omega)] at h ⊢
  cases hr : rightsP l 0 with
  | some x => have := rights_at l 0 x hr; simp only; omega
  | none =>
    rw [hr] at h
    cases ht : twiceP [] l 0 with
    | none => rw [ht] at h; simp at h
    | some x => have := twice_at l [] 0 x ht; simp only; omega
theorem w37 (b : List UInt8) (hb : b.length < 1000000000000000) (Q : Ex → Slots → LH → Prop) (hQ : ∀ σ H, OwnAt 8 (recs (unpackF b).1) (Slots.get σ 2) H → Slots.get σ 3 = .c (.int .i64 ((unpackF b).2.1)) → Slots.get σ 4 = .c (.int .i64 ((unpackF b).2.2)) → Q .ret σ H) : rnC Try.prog b37 Q [(0, .c (.sl 1 (bys b)))] [] := by
  unfold b37
  simp only [go_sem, ↓reduceIte, Nat.reduceEqDiff, Nat.reduceMul, Nat.reduceAdd, Nat.reduceDiv, Nat.reduceSub, Nat.reduceLT, Nat.reduceLeDiff, Int.reduceLE, Int.reduceLT, Int.reduceToNat, Int.reduceEq]
  refine callK_2 _ _ (fun _ => cw63 b hb) (by simp only [go_sem, ↓reduceIte, Nat.reduceEqDiff, Nat.reduceMul, Nat.reduceAdd, Nat.reduceDiv, Nat.reduceSub, Nat.reduceLT, Nat.reduceLeDiff, Int.reduceLE, Int.reduceLT, Int.reduceToNat, Int.reduceEq]) rfl rfl ?_
  simp only [go_sem, ↓reduceIte, Nat.reduceEqDiff, Nat.reduceMul, Nat.reduceAdd, Nat.reduceDiv, Nat.reduceSub, Nat.reduceLT, Nat.reduceLeDiff, Int.reduceLE, Int.reduceLT, Int.reduceToNat, Int.reduceEq]
  repeat (refine ⟨by (first | omega | (intro h1 h2; exact ⟨h1, h2⟩) | (intro h1; omega) | (intro h1; exact h1) | trivial), ?_⟩)
  unfold unpackF at hQ
  refine ⟨fun h => ?_, fun h => ?_⟩
  · rw [if_pos h] at hQ
    exact hQ _ _ (.inl ⟨rfl, rfl⟩) rfl rfl
  rw [if_neg (by simpa using h)] at hQ
  obtain ⟨l10, lmax⟩ := head_len h
  have e1 : IntKind.i64.wrap ((b.length : Int) - 4) = ((b.length - 4 : Nat) : Int) := by rw [wrap_i64]; omega
  have e4 : List.take (b.length - 4 - 0) (bys b) = bys (b.take (b.length - 4)) := by rw [Nat.sub_zero, ← List.drop_zero (l := bys b), bys_cut]; rfl
  have hcl : (b.take (b.length - 4)).length = b.length - 4 := by rw [List.length_take]; omega
  rw [e1, Int.toNat_natCast, e4]
  refine ⟨by omega, ?_⟩
  generalize hcc : b.take (b.length - 4) = c at *
  refine callK_3 _ _ _ (fun _ => cw64 c 5 (by omega) (by decide)) (by simp only [go_sem, ↓reduceIte, Nat.reduceEqDiff, Nat.reduceMul, Nat.reduceAdd, Nat.reduceDiv, Nat.reduceSub, Nat.reduceLT, Nat.reduceLeDiff, Int.reduceLE, Int.reduceLT, Int.reduceToNat, Int.reduceEq]) rfl rfl ?_
  simp only [go_sem, ↓reduceIte, Nat.reduceEqDiff, Nat.reduceMul, Nat.reduceAdd, Nat.reduceDiv, Nat.reduceSub, Nat.reduceLT, Nat.reduceLeDiff, Int.reduceLE, Int.reduceLT, Int.reduceToNat, Int.reduceEq]
  repeat (refine ⟨by (first | omega | (intro h1 h2; exact ⟨h1, h2⟩) | (intro h1; omega) | (intro h1; exact h1) | trivial), ?_⟩)
  have hsp := rdU_spec c 5
  refine ⟨fun h2 => ?_, fun h2 => ?_⟩
  · rw [if_pos h2] at hQ
    exact hQ _ _ (.inl ⟨rfl, rfl⟩) rfl rfl
  rw [if_neg (by simpa using h2)] at hQ
  have hsp := hsp.1 h2
  refine ⟨fun h3 => ?_, fun h3 => ?_⟩
  · rw [if_pos h3] at hQ
    exact hQ _ _ (.inl ⟨rfl, rfl⟩) rfl rfl
  rw [if_neg (by omega)] at hQ
  clear h e1 e4
  generalize rdU c 5 = U at hsp hQ h2 h3
  obtain ⟨n, p0, e⟩ := U
  simp only at hsp hQ h2 h3
  obtain ⟨N, rfl⟩ := Int.eq_ofNat_of_zero_le hsp.2.1
  rw [Int.toNat_natCast] at hQ
  refine loopR.by (α := Nat × Int × List Int × List Rec) (fun p => [(7, .ref 704 0), (11, .osl 1000011 0 p.2.2.2.length), (12, .osl 1000012 0 p.2.2.1.length), (65, .c (.int .i64 N)), (66, .c (.int .i64 p.1))])
    (fun p => [(1000011, .row 8 (recs p.2.2.2)), (1000012, .row 1 (p.2.2.1.map (CV.int .i64))), (704, .obj [.c (.sl 1 (bys c)), .c (.int .i64 p.2.1), .c (.int .i64 0)])])
    (fun p => N - p.1) (fun p => p.1 ≤ N ∧ (0 ≤ p.2.1 ∧ p.2.1 ≤ c.length) ∧ p.2.2.1.length = p.1 ∧ p.2.2.2.length = p.1 ∧ (∀ r ∈ p.2.2.2, r.ok ∧ r.to.length ≤ 96) ∧ unpGo c (N - p.1) p.2.1 p.2.2.1 p.2.2.2 = unpGo c N p0 [] []) (0, p0, [], [])
    ⟨Nat.zero_le _, by simp only; omega, rfl, rfl, by simp, rfl⟩ ?_ ?_
  · intro Y hY
    simp only [go_sem, ↓reduceIte, Nat.reduceEqDiff, Nat.reduceMul, Nat.reduceAdd, Nat.reduceDiv, Nat.reduceSub, Nat.reduceLT, Nat.reduceLeDiff, Int.reduceLE, Int.reduceLT, Int.reduceToNat, Int.reduceEq, n37_0]
    exact ⟨by simp, hY⟩
  intro p hp Y hY
  obtain ⟨k, a, ps, l⟩ := p
  obtain ⟨hk, ha, hps, hl, hall, heq⟩ := hp
  simp only at hk ha hps hl hall heq
  unfold l37_0
  have hcut1 : List.take ps.length (ps.map (CV.int .i64)) = ps.map (CV.int .i64) := List.take_of_length_le (by simp)
  have hcut2 : List.take l.length (recs l) = recs l := List.take_of_length_le (by rw [recs_len]; omega)
  rcases Nat.lt_or_ge k N with hkN | hkN
  · rw [show N - k = (N - (k + 1)) + 1 by omega, unpGo] at heq
    have c65 := cw65 c a (by omega) ha
    obtain ⟨x1, x2, x3, x4⟩ := recS_spec c a ha
    have hsh : recC c a = zeroN ∨ recC c a = (recR c a).cv := by
      unfold recC
      split
      · exact .inl rfl
      · split
        · exact .inl rfl
        · exact .inr rfl
    generalize hS : recS c a = S at c65 x1 x4 heq
    obtain ⟨a', e'⟩ := S
    simp only at c65 x1 x4 heq
    simp only [go_sem, ↓reduceIte, Nat.reduceEqDiff, Nat.reduceMul, Nat.reduceAdd, Nat.reduceDiv, Nat.reduceSub, Nat.reduceLT, Nat.reduceLeDiff, Int.reduceLE, Int.reduceLT, Int.reduceToNat, Int.reduceEq, n37_0]
    refine ⟨fun _ => ⟨by omega, ?_⟩, fun h => by omega⟩
    by_cases he : e' = 0
    · subst he
      rw [if_neg (by simp)] at heq
      rw [x4 rfl] at c65
      refine callK_i ⟨[.cv (.agg [.int .i64 (recR c a).kind, .int .i64 (recR c a).lo, .int .i64 (recR c a).hi, .int .i64 (recR c a).n, .sl 1 (runes (recR c a).to), .str (recR c a).name, .str (recR c a).other, .flt (recR c a).weight])], [[.cv (.sl 1 (bys c)), .cv (.int .i64 a'), .cv (.int .i64 0)]]⟩ (fun _ => c65) ⟨by simp only [go_sem, ↓reduceIte, Nat.reduceEqDiff, Nat.reduceMul, Nat.reduceAdd, Nat.reduceDiv, Nat.reduceSub, Nat.reduceLT, Nat.reduceLeDiff, Int.reduceLE, Int.reduceLT, Int.reduceToNat, Int.reduceEq], .inl rfl, ⟨by simp only [go_sem, ↓reduceIte, Nat.reduceEqDiff, Nat.reduceMul, Nat.reduceAdd, Nat.reduceDiv, Nat.reduceSub, Nat.reduceLT, Nat.reduceLeDiff, Int.reduceLE, Int.reduceLT, Int.reduceToNat, Int.reduceEq], by simp, by simp, by simp⟩, ?_⟩
      simp only [go_sem, ↓reduceIte, Nat.reduceEqDiff, Nat.reduceMul, Nat.reduceAdd, Nat.reduceDiv, Nat.reduceSub, Nat.reduceLT, Nat.reduceLeDiff, Int.reduceLE, Int.reduceLT, Int.reduceToNat, Int.reduceEq, hcut1, hcut2]
      have hz : recs (l ++ [recR c a]) = recs l ++ [(recR c a).cv] := by simp [recs]
      have := hY (k + 1, a', ps ++ [a], l ++ [recR c a]) ⟨by simp only; omega, by simp only; exact x1, by simp only [List.length_append, List.length_singleton]; omega, by simp only [List.length_append, List.length_singleton]; omega, fun r hr => by
        rcases List.mem_append.1 hr with hr | hr
        · exact hall r hr
        · rw [List.mem_singleton.1 hr]; exact ⟨x3.1, x2⟩, heq⟩ (by simp only; omega)
      simp only [hz, List.length_append, List.length_singleton, List.map_append, List.map_cons, List.map_nil] at this
      rw [succ64 hkN (by omega)]
      exact ⟨by omega, by simp, this⟩
    · rw [if_pos he] at heq
      rw [← heq] at hQ
      rcases hsh with hsh | hsh
      · rw [hsh, zeroN] at c65
        refine callK_i ⟨[.cv (.agg [.int .i64 0, .int .i64 0, .int .i64 0, .int .i64 0, .nilsl, .str ⟨#[]⟩, .str ⟨#[]⟩, .flt 0])], [[.cv (.sl 1 (bys c)), .cv (.int .i64 a'), .cv (.int .i64 e')]]⟩ (fun _ => c65) ⟨by simp only [go_sem, ↓reduceIte, Nat.reduceEqDiff, Nat.reduceMul, Nat.reduceAdd, Nat.reduceDiv, Nat.reduceSub, Nat.reduceLT, Nat.reduceLeDiff, Int.reduceLE, Int.reduceLT, Int.reduceToNat, Int.reduceEq], .inl rfl, ⟨by simp only [go_sem, ↓reduceIte, Nat.reduceEqDiff, Nat.reduceMul, Nat.reduceAdd, Nat.reduceDiv, Nat.reduceSub, Nat.reduceLT, Nat.reduceLeDiff, Int.reduceLE, Int.reduceLT, Int.reduceToNat, Int.reduceEq], by simp, by simp, by simp⟩, ?_⟩
        simp only [go_sem, ↓reduceIte, Nat.reduceEqDiff, Nat.reduceMul, Nat.reduceAdd, Nat.reduceDiv, Nat.reduceSub, Nat.reduceLT, Nat.reduceLeDiff, Int.reduceLE, Int.reduceLT, Int.reduceToNat, Int.reduceEq, hcut1, hcut2]
        exact ⟨fun _ => hQ _ _ (.inl ⟨rfl, rfl⟩) rfl rfl, fun h => absurd h he⟩
      · rw [hsh] at c65
        refine callK_i ⟨[.cv (.agg [.int .i64 (recR c a).kind, .int .i64 (recR c a).lo, .int .i64 (recR c a).hi, .int .i64 (recR c a).n, .sl 1 (runes (recR c a).to), .str (recR c a).name, .str (recR c a).other, .flt (recR c a).weight])], [[.cv (.sl 1 (bys c)), .cv (.int .i64 a'), .cv (.int .i64 e')]]⟩ (fun _ => c65) ⟨by simp only [go_sem, ↓reduceIte, Nat.reduceEqDiff, Nat.reduceMul, Nat.reduceAdd, Nat.reduceDiv, Nat.reduceSub, Nat.reduceLT, Nat.reduceLeDiff, Int.reduceLE, Int.reduceLT, Int.reduceToNat, Int.reduceEq], .inl rfl, ⟨by simp only [go_sem, ↓reduceIte, Nat.reduceEqDiff, Nat.reduceMul, Nat.reduceAdd, Nat.reduceDiv, Nat.reduceSub, Nat.reduceLT, Nat.reduceLeDiff, Int.reduceLE, Int.reduceLT, Int.reduceToNat, Int.reduceEq], by simp, by simp, by simp⟩, ?_⟩
        simp only [go_sem, ↓reduceIte, Nat.reduceEqDiff, Nat.reduceMul, Nat.reduceAdd, Nat.reduceDiv, Nat.reduceSub, Nat.reduceLT, Nat.reduceLeDiff, Int.reduceLE, Int.reduceLT, Int.reduceToNat, Int.reduceEq, hcut1, hcut2]
        exact ⟨fun _ => hQ _ _ (.inl ⟨rfl, rfl⟩) rfl rfl, fun h => absurd h he⟩
  · have : k = N := by omega
    subst this
    rw [Nat.sub_self, unpGo] at heq
    rw [← heq] at hQ
    simp only at hQ
    rw [hcl] at ha
    have c30 := cw30 l (fun r hr => (hall r hr).1) (fun r hr => Nat.le_trans (hall r hr).2 (by decide))
    simp only [go_sem, ↓reduceIte, Nat.reduceEqDiff, Nat.reduceMul, Nat.reduceAdd, Nat.reduceDiv, Nat.reduceSub, Nat.reduceLT, Nat.reduceLeDiff, Int.reduceLE, Int.reduceLT, Int.reduceToNat, Int.reduceEq, n37_0, hcut2, hcl]
    refine ⟨fun h => by omega, fun _ => ⟨fun h5 => ?_, fun h5 => ?_⟩⟩
    · rw [if_pos h5] at hQ
      exact hQ _ _ (.inl ⟨rfl, rfl⟩) rfl rfl
    rw [if_neg (by omega)] at hQ
    refine callK_i ⟨[.cv (.int .i64 (checkP l).1), .cv (.int .i64 (checkP l).2)], []⟩ (fun _ => c30) ⟨by simp only [go_sem, ↓reduceIte, Nat.reduceEqDiff, Nat.reduceMul, Nat.reduceAdd, Nat.reduceDiv, Nat.reduceSub, Nat.reduceLT, Nat.reduceLeDiff, Int.reduceLE, Int.reduceLT, Int.reduceToNat, Int.reduceEq], .inr ⟨by simp [OC.scalar, CV.scalar], by simp⟩, ⟨by simp only [go_sem, ↓reduceIte, Nat.reduceEqDiff, Nat.reduceMul, Nat.reduceAdd, Nat.reduceDiv, Nat.reduceSub, Nat.reduceLT, Nat.reduceLeDiff, Int.reduceLE, Int.reduceLT, Int.reduceToNat, Int.reduceEq], by simp, by simp, by simp⟩, ?_⟩
    simp only [go_sem, ↓reduceIte, Nat.reduceEqDiff, Nat.reduceMul, Nat.reduceAdd, Nat.reduceDiv, Nat.reduceSub, Nat.reduceLT, Nat.reduceLeDiff, Int.reduceLE, Int.reduceLT, Int.reduceToNat, Int.reduceEq]
    refine ⟨fun h6 => ?_, fun h6 => ?_⟩
    · rw [if_pos h6] at hQ
      have hat := check_at (by omega) h6
      have ep : (ps.map (CV.int .i64)).getD (checkP l).1.toNat .undef = .int .i64 (ps.getD (checkP l).1.toNat 0) := by
        have : (checkP l).1.toNat < ps.length := by omega
        simp [List.getD_eq_getElem?_getD, this]
      rw [ep]
      exact ⟨by omega, hQ _ _ (.inl ⟨rfl, rfl⟩) rfl rfl⟩
    · rw [if_neg (by simpa using h6)] at hQ
      exact hQ _ _ (own_at rfl (by rw [recs_len]) rfl) rfl rfl
theorem cw37 (b : List UInt8) (hb : b.length < 1000000000000000) : CW Try.prog 37 [.cv (.sl 1 (bys b))] ⟨[.own 8 (recs (unpackF b).1), .cv (.int .i64 ((unpackF b).2.1)), .cv (.int .i64 ((unpackF b).2.2))], []⟩ :=
  top37 rfl rfl [] trivial (w37 b hb _ fun σ H h h' h'' => retO3 rfl h h' h'')
end Go.Proofs.Ytcpdnpaedkcebaa.V
namespace Go.Proofs.Ytcpdnpaedkcebaa.V
open Go Go.RowKit
set_option linter.unusedVariables false
set_option linter.unusedSimpArgs false
set_option maxRecDepth 100000
def Eqv (X Y : (Int × Int) × Rec) : Prop := X.1 = Y.1 ∧ (Y.1.2 = 0 → X.2 = Y.2)
theorem Eqv.refl (X : (Int × Int) × Rec) : Eqv X X := ⟨rfl, fun _ => rfl⟩
end Go.Proofs.Ytcpdnpaedkcebaa.V
namespace Go.Proofs.Ytcpdnpaedkcebaa.V
open Go Go.RowKit
set_option linter.unusedVariables false
set_option linter.unusedSimpArgs false
set_option maxRecDepth 100000
theorem bys_getD {b : List UInt8} {k : Nat} (h : k < b.length) : (bys b).getD k .undef = .int .u8 ((b.getD k 0).toNat : Int) := by
  rw [bys_at h, List.getD_eq_getElem?_getD, List.getElem?_eq_getElem h]; rfl
theorem sum_byte {s i : Nat} (hs : s < 4294967296) (hi : i < 4) : IntKind.u8.wrap (bitI .and .u32 ((s : Int).fdiv (2 ^ min (8 * i) 32)) 255) = (((sum4 s).getD i 0).toNat : Int) := by
  have key : ∀ d : Nat, IntKind.u8.wrap (bitI .and .u32 ((s / d : Nat) : Int) 255) = ((by8 ((s / d : Nat) : Int)).toNat : Int) := fun d => by
    have hd : s / d < 4294967296 := Nat.lt_of_le_of_lt (Nat.div_le_self _ _) hs
    have : bitI .and .u32 ((s / d : Nat) : Int) 255 = ((s / d % 256 : Nat) : Int) := by
      show IntKind.u32.wrap ((BitVec.ofInt 32 ((s / d : Nat) : Int) &&& BitVec.ofInt 32 255).toNat : Int) = _
      rw [n32, show BitVec.ofInt 32 255 = BitVec.ofNat 32 (2 ^ 8 - 1) by decide, BitVec.toNat_and, BitVec.toNat_ofNat, BitVec.toNat_ofNat, Nat.mod_eq_of_lt hd, Nat.mod_eq_of_lt (a := 2 ^ 8 - 1) (by decide), Nat.and_two_pow_sub_one_eq_mod, wrap_u32]
      omega
    rw [this, by8_nat, wrap_u8]
    omega
  match i, hi with
  | 0, _ => have := key 1; rw [Nat.div_one] at this; rw [show (2 : Int) ^ min (8 * 0) 32 = ((1 : Nat) : Int) from rfl, fdiv_nat, Nat.div_one]; exact this
  | 1, _ => rw [show (2 : Int) ^ min (8 * 1) 32 = ((256 : Nat) : Int) from rfl, fdiv_nat]; exact key 256
  | 2, _ => rw [show (2 : Int) ^ min (8 * 2) 32 = ((65536 : Nat) : Int) from rfl, fdiv_nat]; exact key 65536
  | 3, _ => rw [show (2 : Int) ^ min (8 * 3) 32 = ((16777216 : Nat) : Int) from rfl, fdiv_nat]; exact key 16777216
end Go.Proofs.Ytcpdnpaedkcebaa.V
namespace Go.Proofs.Ytcpdnpaedkcebaa.V
open Go Go.RowKit
set_option linter.unusedVariables false
set_option linter.unusedSimpArgs false
set_option maxRecDepth 100000
def l33_0 : IC := (.seq (.seq (.reg [⟨(some 26), 0, none, .mv (.t 8)⟩,
  ⟨(some 27), 0, none, .mv (.t 0)⟩,
  ⟨(some 28), 0, none, .len false (.t 27)⟩,
  ⟨(some 29), 0, none, .bin .lss (.t 26) (.t 28)⟩]) (.cond (.t 29) .skip (.exit 0))) (.seq (.block 1 (.reg [⟨(some 32), 0, none, .mv (.t 7)⟩,
  ⟨(some 33), 0, none, .mv (.t 0)⟩,
  ⟨(some 34), 0, none, .mv (.t 8)⟩,
  ⟨(some 35), 0, none, .ia (.t 33) (.t 34) 8⟩,
  ⟨(some 36), 0, none, .ld (.t 35) (some 8)⟩,
  ⟨(some 37), 23, none, .call (.c (.fn 60)) [((.t 36), .plain)]⟩,
  ⟨(some 38), 33, none, .app (.t 32) (.t 37) 1 1 false⟩,
  ⟨(some 7), 0, none, .mv (.t 38)⟩])) (.reg [⟨(some 30), 0, none, .mv (.t 8)⟩,
  ⟨(some 31), 0, none, .bin .add (.t 30) (.c (.int .i64 1))⟩,
  ⟨(some 8), 0, none, .mv (.t 31)⟩])))
def n33_0 : Norm := ⟨[(0, .plain), (7, .own 1 1000007), (8, .plain)], []⟩
def l33_1 : IC := (.seq (.seq (.reg [⟨(some 41), 0, none, .mv (.t 10)⟩,
  ⟨(some 42), 0, none, .bin .lss (.t 41) (.c (.int .i64 4))⟩]) (.cond (.t 42) .skip (.exit 2))) (.seq (.block 3 (.reg [⟨(some 45), 0, none, .mv (.t 7)⟩,
  ⟨(some 46), 0, none, .mv (.t 9)⟩,
  ⟨(some 47), 0, none, .mv (.t 10)⟩,
  ⟨(some 48), 0, none, .bin .mul (.c (.int .i64 8)) (.t 47)⟩,
  ⟨(some 49), 0, none, .conv .u64 (.t 48)⟩,
  ⟨(some 50), 0, none, .bin .shr (.t 46) (.t 49)⟩,
  ⟨(some 51), 0, none, .bin .and (.t 50) (.c (.int .u32 255))⟩,
  ⟨(some 52), 0, none, .conv .u8 (.t 51)⟩,
  ⟨(some 53), 44, none, .bsl 1 [(.t 52)]⟩,
  ⟨(some 54), 45, none, .app (.t 45) (.t 53) 1 1 false⟩,
  ⟨(some 7), 0, none, .mv (.t 54)⟩])) (.reg [⟨(some 43), 0, none, .mv (.t 10)⟩,
  ⟨(some 44), 0, none, .bin .add (.t 43) (.c (.int .i64 1))⟩,
  ⟨(some 10), 0, none, .mv (.t 44)⟩])))
def n33_1 : Norm := ⟨[(7, .own 1 1000007), (9, .plain), (10, .plain)], []⟩
def b33 : IC := (.seq (.reg [⟨(some 2), 0, none, .mv (.c .nilsl)⟩,
  ⟨(some 3), 0, none, .mv (.c (.int .i64 0))⟩,
  ⟨(some 4), 0, none, .mv (.c (.int .i64 0))⟩]) (.seq (.reg [⟨(some 12), 0, none, .mv (.t 0)⟩,
  ⟨(some 13), 1, none, .call (.c (.fn 51)) [((.t 12), .view 8)]⟩,
  ⟨(some 11), 0, none, .mv (.t 13)⟩,
  ⟨(some 14), 0, none, .ext (.t 11) 0⟩,
  ⟨(some 15), 0, none, .ext (.t 11) 1⟩,
  ⟨(some 5), 0, none, .mv (.t 14)⟩,
  ⟨(some 6), 0, none, .mv (.t 15)⟩]) (.seq (.seq (.reg [⟨(some 16), 0, none, .mv (.t 6)⟩,
  ⟨(some 17), 0, none, .bin .neq (.t 16) (.c (.int .i64 0))⟩]) (.cond (.t 17) (.seq (.reg [⟨(some 18), 0, none, .mv (.t 5)⟩,
  ⟨(some 19), 0, none, .mv (.t 6)⟩,
  ⟨(some 2), 0, none, .mv (.c .nilsl)⟩,
  ⟨(some 3), 0, none, .mv (.t 18)⟩,
  ⟨(some 4), 0, none, .mv (.t 19)⟩]) .ret) .skip)) (.seq (.reg [⟨(some 20), 11, none, .bsl 1 [(.c (.int .u8 101)), (.c (.int .u8 110)), (.c (.int .u8 100)), (.c (.int .u8 111)), (.c (.int .u8 1))]⟩,
  ⟨(some 7), 0, none, .mv (.t 20)⟩]) (.seq (.reg [⟨(some 21), 0, none, .mv (.t 7)⟩,
  ⟨(some 22), 0, none, .mv (.t 0)⟩,
  ⟨(some 23), 0, none, .len false (.t 22)⟩,
  ⟨(some 24), 12, none, .call (.c (.fn 59)) [((.t 23), .plain)]⟩,
  ⟨(some 25), 22, none, .app (.t 21) (.t 24) 1 1 false⟩,
  ⟨(some 7), 0, none, .mv (.t 25)⟩]) (.seq (.seq (.reg [⟨(some 8), 0, none, .mv (.c (.int .i64 0))⟩]) (.block 0 (.loop n33_0 l33_0))) (.seq (.reg [⟨(some 39), 0, none, .mv (.t 7)⟩,
  ⟨(some 40), 34, none, .call (.c (.fn 61)) [((.t 39), .view 1)]⟩,
  ⟨(some 9), 0, none, .mv (.t 40)⟩]) (.seq (.seq (.reg [⟨(some 10), 0, none, .mv (.c (.int .i64 0))⟩]) (.block 2 (.loop n33_1 l33_1))) (.seq (.seq (.reg [⟨(some 55), 0, none, .mv (.t 7)⟩,
  ⟨(some 56), 0, none, .len false (.t 55)⟩,
  ⟨(some 57), 0, none, .bin .gtr (.t 56) (.c (.int .i64 262144))⟩]) (.cond (.t 57) (.seq (.reg [⟨(some 2), 0, none, .mv (.c .nilsl)⟩,
  ⟨(some 3), 0, none, .mv (.c (.int .i64 0))⟩,
  ⟨(some 4), 0, none, .mv (.c (.int .i64 2))⟩]) .ret) .skip)) (.seq (.reg [⟨(some 58), 0, none, .mv (.t 7)⟩,
  ⟨(some 2), 0, none, .mv (.t 58)⟩,
  ⟨(some 3), 0, none, .mv (.c (.int .i64 0))⟩,
  ⟨(some 4), 0, none, .mv (.c (.int .i64 0))⟩]) .ret))))))))))
def rs33 : List (Nat × Option Nat × Mode) := [(2, none, .move 1), (3, none, .plain), (4, none, .plain)]
theorem chk33 : chkC Try.prog Try.f33.ntmps b33 (Try.f33.body.getD .skip) = true := by decide +kernel
theorem top33 {args : List Arg} {out : Out} (ha : args.length.ble Try.f33.ntmps = true) (h8 : args.length.ble 8 = true) (mss : List (List (Option Nat))) (hb : backOK args out.back)
    (hw : rnC Try.prog b33 (topQ rs33 args mss out) (slotsOf (argsAV argBase args 0) 0) (argsOb argBase args 0)) : CW Try.prog 33 args out :=
  CW.of Try.func33 rs33 mss (by decide +kernel) (by decide +kernel) (by decide +kernel) ha h8 chk33 hb hw
theorem sum_take (s j : Nat) (hj : j < 4) : (sum4 s).take (j + 1) = (sum4 s).take j ++ [(sum4 s).getD j 0] := by
  match j, hj with
  | 0, _ => rfl
  | 1, _ => rfl
  | 2, _ => rfl
  | 3, _ => rfl
theorem sum_cv {s j : Nat} (hs : s < 4294967296) (hj : j < 4) : CV.int .u8 (IntKind.u8.wrap (bitI .and .u32 ((s : Int).fdiv (2 ^ min (8 * j) 32)) 255)) = u8 ((sum4 s).getD j 0) := by
  rw [sum_byte hs hj]; rfl
theorem w33 (l : List Rec) (hl : ∀ r ∈ l, r.ok) (hwt : ∀ r ∈ l, r.wok) (hto : ∀ r ∈ l, r.to.length ≤ 35184372088832) (Q : Ex → Slots → LH → Prop) (hQ : ∀ σ H, OwnAt 1 (bys (packF l).1) (Slots.get σ 2) H → Slots.get σ 3 = .c (.int .i64 ((packF l).2.1)) → Slots.get σ 4 = .c (.int .i64 ((packF l).2.2)) → Q .ret σ H) : rnC Try.prog b33 Q [(0, .c (.sl 8 (recs l)))] [] := by
  unfold b33
  simp only [go_sem, ↓reduceIte, Nat.reduceEqDiff, Nat.reduceMul, Nat.reduceAdd, Nat.reduceDiv, Nat.reduceSub, Nat.reduceLT, Nat.reduceLeDiff, Int.reduceLE, Int.reduceLT, Int.reduceToNat, Int.reduceEq]
  have c51 := cw51 l hl hto
  rw [← check_eq hl hwt] at c51
  refine callK_2 _ _ (fun _ => c51) (by simp only [go_sem, ↓reduceIte, Nat.reduceEqDiff, Nat.reduceMul, Nat.reduceAdd, Nat.reduceDiv, Nat.reduceSub, Nat.reduceLT, Nat.reduceLeDiff, Int.reduceLE, Int.reduceLT, Int.reduceToNat, Int.reduceEq]) rfl rfl ?_
  simp only [go_sem, ↓reduceIte, Nat.reduceEqDiff, Nat.reduceMul, Nat.reduceAdd, Nat.reduceDiv, Nat.reduceSub, Nat.reduceLT, Nat.reduceLeDiff, Int.reduceLE, Int.reduceLT, Int.reduceToNat, Int.reduceEq]
  repeat (refine ⟨by (first | omega | (intro h1 h2; exact ⟨h1, h2⟩) | (intro h1; omega) | (intro h1; exact h1) | trivial), ?_⟩)
  unfold packF at hQ
  refine ⟨fun h => ?_, fun h => ?_⟩
  · rw [if_pos h] at hQ
    exact hQ _ _ (.inl ⟨rfl, rfl⟩) rfl rfl
  rw [if_neg (by simpa using h)] at hQ
  have hr := check_right hl h
  have hn4 : l.length ≤ 4096 := ((check_zero hl).1 h).1
  have u9 := uintP_9 (n := (l.length : Int)) (by omega)
  refine callK_O 1 (bys (uintP (l.length : Int))) (fun _ => cw59 (l.length : Int) (by omega) (by omega)) (by simp only [go_sem, ↓reduceIte, Nat.reduceEqDiff, Nat.reduceMul, Nat.reduceAdd, Nat.reduceDiv, Nat.reduceSub, Nat.reduceLT, Nat.reduceLeDiff, Int.reduceLE, Int.reduceLT, Int.reduceToNat, Int.reduceEq]) rfl rfl ?_
  simp only [go_sem, ↓reduceIte, Nat.reduceEqDiff, Nat.reduceMul, Nat.reduceAdd, Nat.reduceDiv, Nat.reduceSub, Nat.reduceLT, Nat.reduceLeDiff, Int.reduceLE, Int.reduceLT, Int.reduceToNat, Int.reduceEq]
  repeat (refine ⟨by (first | omega | (intro h1 h2; exact ⟨h1, h2⟩) | (intro h1; omega) | (intro h1; exact h1) | trivial), ?_⟩)
  rw [bys_take, uintP_nat, bys_len]
  have u9' := uintL_9 (n := l.length) (by omega)
  have eH : (CV.int .u8 101 :: CV.int .u8 110 :: CV.int .u8 100 :: CV.int .u8 111 :: CV.int .u8 1 :: bys (uintL l.length)) = bys (packH l.length) := rfl
  have e00 : 5 + (uintL l.length).length = (packH l.length).length := by unfold packH; rw [List.length_append]; rfl
  rw [eH, e00]
  refine ⟨by omega, ?_⟩
  generalize hB : (fun i : Nat => packH l.length ++ (l.take i).flatMap recL) = B
  have hB0 : B 0 = packH l.length := by rw [← hB]; simp
  have hp : packB l = B l.length ++ sum4 (sumW (B l.length)) := by rw [← hB]; simp [packB]
  have hBs : ∀ i r, l[i]? = some r → B (i + 1) = B i ++ recL r := fun i r h => by
    rw [← hB]
    simp only [List.take_add_one, h, Option.toList_some, List.flatMap_append, List.flatMap_cons, List.flatMap_nil, List.append_nil, List.append_assoc]
  rw [← hB0]
  rw [hp] at hQ
  have hBl : (B 0).length ≤ 14 + 1201 * 0 := by rw [hB0, ← e00]; omega
  clear hB hB0 hp eH e00
  refine loopR.by (α := Nat) (fun i => [(0, .c (.sl 8 (recs l))), (7, .osl 1000007 0 (B i).length), (8, .c (.int .i64 i))]) (fun i => [(1000007, .row 1 (bys (B i)))]) (fun i => l.length - i) (fun i => i ≤ l.length ∧ (B i).length ≤ 14 + 1201 * i) 0 ⟨Nat.zero_le _, hBl⟩ ?_ ?_
  · intro Y hY
    simp only [go_sem, ↓reduceIte, Nat.reduceEqDiff, Nat.reduceMul, Nat.reduceAdd, Nat.reduceDiv, Nat.reduceSub, Nat.reduceLT, Nat.reduceLeDiff, Int.reduceLE, Int.reduceLT, Int.reduceToNat, Int.reduceEq, n33_0]
    first | exact hY | exact ⟨by simp, hY⟩
  intro i hi Y hY
  obtain ⟨hi, hlen⟩ := hi
  unfold l33_0
  rcases Nat.lt_or_ge i l.length with hlt | hge
  · obtain ⟨r, e, hm, hd⟩ := recs_at hlt
    have hrr := hr r hm
    have hwr := hwt r hm
    have hL8 := recL_len hrr hwr
    have hs := hBs i r (by rw [← List.head?_drop, hd]; rfl)
    have hY' := hY (i + 1) ⟨by omega, by rw [hs, List.length_append]; omega⟩ (by omega)
    rw [hs, List.length_append] at hY'
    generalize B i = W at hlen hY'
    clear hY
    simp only [go_sem, ↓reduceIte, Nat.reduceEqDiff, Nat.reduceMul, Nat.reduceAdd, Nat.reduceDiv, Nat.reduceSub, Nat.reduceLT, Nat.reduceLeDiff, Int.reduceLE, Int.reduceLT, Int.reduceToNat, Int.reduceEq, n33_0, e]
    refine ⟨fun _ => ⟨by omega, ?_⟩, fun h => by omega⟩
    have c60 := cw60 r hrr hwr
    refine callK_O 1 (bys (recL r)) (fun _ => c60) (by simp only [go_sem, ↓reduceIte, Nat.reduceEqDiff, Nat.reduceMul, Nat.reduceAdd, Nat.reduceDiv, Nat.reduceSub, Nat.reduceLT, Nat.reduceLeDiff, Int.reduceLE, Int.reduceLT, Int.reduceToNat, Int.reduceEq]) rfl rfl ?_
    simp only [go_sem, ↓reduceIte, Nat.reduceEqDiff, Nat.reduceMul, Nat.reduceAdd, Nat.reduceDiv, Nat.reduceSub, Nat.reduceLT, Nat.reduceLeDiff, Int.reduceLE, Int.reduceLT, Int.reduceToNat, Int.reduceEq]
    rw [bys_take, bys_take, bys_app, succ64 hlt (by omega)]
    simp only [bys_len]
    exact ⟨by omega, trivial, hY'⟩
  · have : i = l.length := by omega
    subst this
    have e : (recs l).getD l.length .undef = .undef := by
      rw [List.getD_eq_getElem?_getD, List.getElem?_eq_none (by rw [recs_len]; omega)]; rfl
    simp only [go_sem, ↓reduceIte, Nat.reduceEqDiff, Nat.reduceMul, Nat.reduceAdd, Nat.reduceDiv, Nat.reduceSub, Nat.reduceLT, Nat.reduceLeDiff, Int.reduceLE, Int.reduceLT, Int.reduceToNat, Int.reduceEq, n33_0, e]
    refine ⟨fun h => by omega, fun _ => ?_⟩
    generalize B l.length = W at hlen hQ
    clear hBs hBl hY
    have c61 := cw61 W (by omega)
    refine callK_i ⟨[.cv (.int .u32 (sumW W : Int))], []⟩ (fun _ => by rw [bys_take]; exact c61) ⟨by simp only [go_sem, ↓reduceIte, Nat.reduceEqDiff, Nat.reduceMul, Nat.reduceAdd, Nat.reduceDiv, Nat.reduceSub, Nat.reduceLT, Nat.reduceLeDiff, Int.reduceLE, Int.reduceLT, Int.reduceToNat, Int.reduceEq], .inr ⟨by simp [OC.scalar, CV.scalar], by simp⟩, ⟨by simp only [go_sem, ↓reduceIte, Nat.reduceEqDiff, Nat.reduceMul, Nat.reduceAdd, Nat.reduceDiv, Nat.reduceSub, Nat.reduceLT, Nat.reduceLeDiff, Int.reduceLE, Int.reduceLT, Int.reduceToNat, Int.reduceEq], by simp, by simp, by simp⟩, ?_⟩
    simp only [go_sem, ↓reduceIte, Nat.reduceEqDiff, Nat.reduceMul, Nat.reduceAdd, Nat.reduceDiv, Nat.reduceSub, Nat.reduceLT, Nat.reduceLeDiff, Int.reduceLE, Int.reduceLT, Int.reduceToNat, Int.reduceEq]
    have hs := sumW_lt W
    generalize sumW W = s at *
    refine loopR.by (α := Nat) (fun j => [(7, .osl 1000007 0 (W.length + j)), (9, .c (.int .u32 s)), (10, .c (.int .i64 j))]) (fun j => [(1000007, .row 1 (bys (W ++ (sum4 s).take j)))]) (fun j => 4 - j) (fun j => j ≤ 4) 0 (Nat.zero_le _) ?_ ?_
    · intro Y hY
      simp only [List.take_zero, List.append_nil, Nat.add_zero] at hY
      simp only [go_sem, ↓reduceIte, Nat.reduceEqDiff, Nat.reduceMul, Nat.reduceAdd, Nat.reduceDiv, Nat.reduceSub, Nat.reduceLT, Nat.reduceLeDiff, Int.reduceLE, Int.reduceLT, Int.reduceToNat, Int.reduceEq, n33_1]
      first | exact hY | exact ⟨by simp, hY⟩
    intro j hj Y hY
    unfold l33_1
    have hw8 : IntKind.u64.wrap (IntKind.i64.wrap (8 * (j : Int))) = ((8 * j : Nat) : Int) := by
      rw [show IntKind.i64.wrap (8 * (j : Int)) = ((8 * j : Nat) : Int) by rw [wrap_i64]; omega, wrap_u64]; omega
    have hl : (W ++ (sum4 s).take j).length = W.length + j := by
      rw [List.length_append, List.length_take]
      have : (sum4 s).length = 4 := rfl
      omega
    have hcut : List.take (W.length + j) (bys (W ++ (sum4 s).take j)) = bys (W ++ (sum4 s).take j) := List.take_of_length_le (by rw [bys_len, hl]; exact Nat.le_refl _)
    simp only [go_sem, ↓reduceIte, Nat.reduceEqDiff, Nat.reduceMul, Nat.reduceAdd, Nat.reduceDiv, Nat.reduceSub, Nat.reduceLT, Nat.reduceLeDiff, Int.reduceLE, Int.reduceLT, Int.reduceToNat, Int.reduceEq, n33_1, hw8, hcut]
    refine ⟨fun h => ?_, fun h => ?_⟩
    · have hj4 : j < 4 := by omega
      rw [sum_cv hs hj4, bys_one, bys_app, List.append_assoc, ← sum_take s j hj4, succ64 hj4 (by omega)]
      have := hY (j + 1) (by omega) (by omega)
      have htl : (List.take j (sum4 s)).length = j := by rw [List.length_append] at hl; omega
      rw [htl]
      exact (by first | exact ⟨by omega, rfl, this⟩ | exact ⟨by omega, by omega, rfl, this⟩ | exact ⟨by omega, by omega, this⟩)
    · have : j = 4 := by omega
      subst this
      have e4 : (sum4 s).take 4 = sum4 s := rfl
      rw [e4] at hl ⊢
      rw [hl] at hQ
      refine ⟨fun h => ?_, fun h => ?_⟩
      · rw [if_pos (by omega)] at hQ
        exact hQ _ _ (.inl ⟨rfl, rfl⟩) rfl rfl
      · rw [if_neg (by omega)] at hQ
        exact hQ _ _ (own_at rfl (by rw [bys_len]; show W.length + 4 = (W ++ sum4 s).length; omega) rfl) rfl rfl
theorem cw33 (l : List Rec) (hl : ∀ r ∈ l, r.ok) (hwt : ∀ r ∈ l, r.wok) (hto : ∀ r ∈ l, r.to.length ≤ 35184372088832) : CW Try.prog 33 [.cv (.sl 8 (recs l))] ⟨[.own 1 (bys (packF l).1), .cv (.int .i64 ((packF l).2.1)), .cv (.int .i64 ((packF l).2.2))], []⟩ :=
  top33 rfl rfl [] trivial (w33 l hl hwt hto _ fun σ H h h' h'' => retO3 rfl h h' h'')
end Go.Proofs.Ytcpdnpaedkcebaa.V
namespace Go.Proofs.Ytcpdnpaedkcebaa.V
open Go Go.RowKit
set_option linter.unusedVariables false
set_option linter.unusedSimpArgs false
set_option maxRecDepth 100000
def y4 (f : Func) : Array Oper := opsOf (seqA (seqB (seqB (codeOf f))))
section
variable {C : Ctx} {ι ι' : Nat → Loc} {S S' : Nat → Prop} {σ σ' : Slots} {H H' : LH} {a a' : Act} {w w' : World} {m : Nat} {g : Value → Value}
structure Seen (C : Ctx) (ι : Nat → Loc) (S : Nat → Prop) (H : LH) (w : World) (m : Nat) (p : List (Int × Int)) : Prop where
  ex : ∃ g, MapAt w m isP (.int .i64 0) g ∧ ∀ a b, g (.agg #[.int .i32 a, .int .i32 b]) = .int .i64 (if (a, b) ∈ p then 1 else 0)
  hm : Hid ι S H w m
  hC : C.w0.heap.size ≤ m
theorem Seen.step {p : List (Int × Int)} (h : Seen C ι S H w m p) {D : Ctx} (h' : R (D.now w ι S H) ι' S' σ' H' a' w') : Seen C ι' S' H' w' m p := by
  obtain ⟨⟨g, hg, hp⟩, hm, hC⟩ := h
  have := hm.step h'
  exact ⟨⟨g, hg.same this.2, hp⟩, this.1, hC⟩
theorem Seen.nil {p : List (Int × Int)} (h : Seen C ι S H w m p) : Seen C ι S [] w m p := ⟨h.ex, h.hm.nil, h.hC⟩
structure Iter (C : Ctx) (ι : Nat → Loc) (S : Nat → Prop) (H : LH) (w : World) (it : Nat) (s : ByteArray) (pos : Nat) : Prop where
  hv : w.heap[it]? = some (.stringIter s pos)
  hm : Hid ι S H w it
  hC : C.w0.heap.size ≤ it
theorem Iter.step {it : Nat} {s : ByteArray} {pos : Nat} (h : Iter C ι S H w it s pos) {D : Ctx} (h' : R (D.now w ι S H) ι' S' σ' H' a' w') : Iter C ι' S' H' w' it s pos := by
  obtain ⟨hv, hm, hC⟩ := h
  have := hm.step h'
  exact ⟨this.2.trans hv, this.1, hC⟩
end
end Go.Proofs.Ytcpdnpaedkcebaa.V
namespace Go.Proofs.Ytcpdnpaedkcebaa.V
open Go Go.RowKit
set_option linter.unusedVariables false
set_option linter.unusedSimpArgs false
set_option maxRecDepth 100000
def b46 : IC := (.seq (.reg [⟨(some 2), 1, none, .box (.t 0)⟩,
  ⟨(some 3), 2, none, .box (.t 1)⟩,
  ⟨(some 4), 0, none, .mv (.c (.bool false))⟩]) (.seq (.draw (.take 0 ⟨(some 5), 0, none, .fa (.t 2) 0⟩ (.take 1 ⟨(some 6), 0, none, .ld (.t 5) none⟩ (.take 2 ⟨(some 7), 0, none, .fa (.t 3) 0⟩ (.take 3 ⟨(some 8), 0, none, .ld (.t 7) none⟩ (.take 4 ⟨(some 9), 0, none, .bin .eql (.t 6) (.t 8)⟩ (.take 5 ⟨(some 10), 0, none, .mv (.t 9)⟩ (.take 6 ⟨(some 11), 0, (some (10, true)), .fa (.t 2) 1⟩ (.take 7 ⟨(some 12), 0, (some (10, true)), .ld (.t 11) none⟩ (.take 8 ⟨(some 13), 0, (some (10, true)), .fa (.t 3) 1⟩ (.take 9 ⟨(some 14), 0, (some (10, true)), .ld (.t 13) none⟩ (.take 10 ⟨(some 15), 0, (some (10, true)), .bin .eql (.t 12) (.t 14)⟩ (.take 11 ⟨(some 16), 0, none, .pick (.t 10) (.t 15) (.c (.bool false))⟩ (.take 12 ⟨(some 17), 0, none, .mv (.t 16)⟩ (.take 13 ⟨(some 18), 0, (some (17, true)), .fa (.t 2) 2⟩ (.take 14 ⟨(some 19), 0, (some (17, true)), .ld (.t 18) none⟩ (.take 15 ⟨(some 20), 0, (some (17, true)), .fa (.t 3) 2⟩ (.take 16 ⟨(some 21), 0, (some (17, true)), .ld (.t 20) none⟩ (.take 17 ⟨(some 22), 0, (some (17, true)), .bin .eql (.t 19) (.t 21)⟩ (.take 18 ⟨(some 23), 0, none, .pick (.t 17) (.t 22) (.c (.bool false))⟩ (.take 19 ⟨(some 24), 0, none, .mv (.t 23)⟩ (.take 20 ⟨(some 25), 0, (some (24, true)), .fa (.t 2) 3⟩ (.take 21 ⟨(some 26), 0, (some (24, true)), .ld (.t 25) none⟩ (.take 22 ⟨(some 27), 0, (some (24, true)), .fa (.t 3) 3⟩ (.take 23 ⟨(some 28), 0, (some (24, true)), .ld (.t 27) none⟩ (.take 24 ⟨(some 29), 0, (some (24, true)), .bin .eql (.t 26) (.t 28)⟩ (.take 25 ⟨(some 30), 0, none, .pick (.t 24) (.t 29) (.c (.bool false))⟩ (.take 26 ⟨(some 31), 0, none, .mv (.t 30)⟩ (.take 27 ⟨(some 32), 0, (some (31, true)), .fa (.t 2) 4⟩ (.take 28 ⟨(some 33), 0, (some (31, true)), .ld (.t 32) none⟩ (.take 29 ⟨(some 34), 0, (some (31, true)), .fa (.t 3) 4⟩ (.take 30 ⟨(some 35), 0, (some (31, true)), .ld (.t 34) none⟩ (.br 31 ⟨(some 36), 3, (some (31, true)), .call (.c (.fn 20)) [((.t 33), .view 1), ((.t 35), .view 1)]⟩ [false, true, false, true, false, true, true, true, true, true, true, true, true, true, true, true, true, true, true, true, true, true, true, true, true, true, true, true, true, true, true] (.take 32 ⟨(some 37), 0, none, .pick (.t 31) (.t 36) (.c (.bool false))⟩ (.take 33 ⟨(some 38), 0, none, .mv (.t 37)⟩ (.take 34 ⟨(some 39), 0, (some (38, true)), .fa (.t 2) 5⟩ (.take 35 ⟨(some 40), 0, (some (38, true)), .ld (.t 39) none⟩ (.take 36 ⟨(some 41), 0, (some (38, true)), .fa (.t 3) 5⟩ (.take 37 ⟨(some 42), 0, (some (38, true)), .ld (.t 41) none⟩ (.take 38 ⟨(some 43), 0, (some (38, true)), .bin .eql (.t 40) (.t 42)⟩ (.take 39 ⟨(some 44), 0, none, .pick (.t 38) (.t 43) (.c (.bool false))⟩ (.take 40 ⟨(some 45), 0, none, .mv (.t 44)⟩ (.take 41 ⟨(some 46), 0, (some (45, true)), .fa (.t 2) 6⟩ (.take 42 ⟨(some 47), 0, (some (45, true)), .ld (.t 46) none⟩ (.take 43 ⟨(some 48), 0, (some (45, true)), .fa (.t 3) 6⟩ (.take 44 ⟨(some 49), 0, (some (45, true)), .ld (.t 48) none⟩ (.take 45 ⟨(some 50), 0, (some (45, true)), .bin .eql (.t 47) (.t 49)⟩ (.take 46 ⟨(some 51), 0, none, .pick (.t 45) (.t 50) (.c (.bool false))⟩ (.take 47 ⟨(some 52), 0, none, .mv (.t 51)⟩ (.take 48 ⟨(some 53), 0, (some (52, true)), .fa (.t 2) 7⟩ (.take 49 ⟨(some 54), 0, (some (52, true)), .ld (.t 53) none⟩ (.take 51 ⟨(some 56), 0, (some (52, true)), .fa (.t 3) 7⟩ (.take 52 ⟨(some 57), 0, (some (52, true)), .ld (.t 56) none⟩ (.br 50 ⟨(some 55), 13, (some (52, true)), .call (.c (.fn 69)) [((.t 54), .plain)]⟩ [true, true, false, true, false, true, true, true, true, true, true, true, true, true, true, true, true, true, true, true, true, true, true, true, true, true, true, true, true, true, true, true, true, true, true, true, true, true, true, true, true, true, true, true, true, true, true, true] (.br 53 ⟨(some 58), 23, (some (52, true)), .call (.c (.fn 69)) [((.t 57), .plain)]⟩ [false, true, true, true, true, true, true, true, true, true, true, true, true, true, true, true, true, true, true, true, true, true, true, true, true, true, true, true, true, true, true, true, true, true, true, true, true, true, true, true, true, true, true, true, true, true] (.take 54 ⟨(some 59), 0, (some (52, true)), .bin .eql (.t 55) (.t 58)⟩ (.take 55 ⟨(some 60), 0, none, .pick (.t 52) (.t 59) (.c (.bool false))⟩ (.take 56 ⟨(some 4), 0, none, .mv (.t 60)⟩ .done))) .no) .no))))))))))))))))))))) .no))))))))))))))))))))))))))))))))) .ret))
def rs46 : List (Nat × Option Nat × Mode) := [(4, none, .plain)]
theorem chk46 : chkC Try.prog Try.f46.ntmps b46 (Try.f46.body.getD .skip) = true := by decide +kernel
theorem top46 {args : List Arg} {out : Out} (ha : args.length.ble Try.f46.ntmps = true) (h8 : args.length.ble 8 = true) (mss : List (List (Option Nat))) (hb : backOK args out.back)
    (hw : rnC Try.prog b46 (topQ rs46 args mss out) (slotsOf (argsAV argBase args 0) 0) (argsOb argBase args 0)) : CW Try.prog 46 args out :=
  CW.of Try.func46 rs46 mss (by decide +kernel) (by decide +kernel) (by decide +kernel) ha h8 chk46 hb hw
def l23_0 : IC := (.seq (.seq (.reg [⟨(some 11), 0, none, .mv (.t 5)⟩,
  ⟨(some 12), 0, none, .mv (.t 0)⟩,
  ⟨(some 13), 0, none, .len false (.t 12)⟩,
  ⟨(some 14), 0, none, .bin .lss (.t 11) (.t 13)⟩]) (.cond (.t 14) .skip (.exit 0))) (.seq (.block 1 (.seq (.draw (.take 0 ⟨(some 17), 0, none, .mv (.t 0)⟩ (.take 1 ⟨(some 18), 0, none, .mv (.t 5)⟩ (.take 2 ⟨(some 19), 0, none, .ia (.t 17) (.t 18) 8⟩ (.take 3 ⟨(some 20), 0, none, .ld (.t 19) (some 8)⟩ (.take 4 ⟨(some 21), 0, none, .mv (.t 1)⟩ (.take 5 ⟨(some 22), 0, none, .mv (.t 5)⟩ (.take 6 ⟨(some 23), 0, none, .ia (.t 21) (.t 22) 8⟩ (.take 7 ⟨(some 24), 0, none, .ld (.t 23) (some 8)⟩ (.br 8 ⟨(some 25), 1, none, .call (.c (.fn 46)) [((.t 20), .plain), ((.t 24), .plain)]⟩ [false, true, true, true, false, true, true, true] (.take 9 ⟨(some 26), 0, none, .not (.t 25)⟩ .done) .no)))))))))) (.cond (.t 26) (.seq (.reg [⟨(some 4), 0, none, .mv (.c (.bool false))⟩]) .ret) .skip))) (.reg [⟨(some 15), 0, none, .mv (.t 5)⟩,
  ⟨(some 16), 0, none, .bin .add (.t 15) (.c (.int .i64 1))⟩,
  ⟨(some 5), 0, none, .mv (.t 16)⟩])))
def n23_0 : Norm := ⟨[(0, .plain), (1, .plain), (5, .plain)], []⟩
def b23 : IC := (.seq (.reg [⟨(some 4), 0, none, .mv (.c (.bool false))⟩]) (.seq (.seq (.reg [⟨(some 6), 0, none, .mv (.t 0)⟩,
  ⟨(some 7), 0, none, .len false (.t 6)⟩,
  ⟨(some 8), 0, none, .mv (.t 1)⟩,
  ⟨(some 9), 0, none, .len false (.t 8)⟩,
  ⟨(some 10), 0, none, .bin .neq (.t 7) (.t 9)⟩]) (.cond (.t 10) (.seq (.reg [⟨(some 4), 0, none, .mv (.c (.bool false))⟩]) .ret) .skip)) (.seq (.seq (.reg [⟨(some 5), 0, none, .mv (.c (.int .i64 0))⟩]) (.block 0 (.loop n23_0 l23_0))) (.seq (.reg [⟨(some 4), 0, none, .mv (.c (.bool true))⟩]) .ret))))
def rs23 : List (Nat × Option Nat × Mode) := [(4, none, .plain)]
theorem chk23 : chkC Try.prog Try.f23.ntmps b23 (Try.f23.body.getD .skip) = true := by decide +kernel
theorem top23 {args : List Arg} {out : Out} (ha : args.length.ble Try.f23.ntmps = true) (h8 : args.length.ble 8 = true) (mss : List (List (Option Nat))) (hb : backOK args out.back)
    (hw : rnC Try.prog b23 (topQ rs23 args mss out) (slotsOf (argsAV argBase args 0) 0) (argsOb argBase args 0)) : CW Try.prog 23 args out :=
  CW.of Try.func23 rs23 mss (by decide +kernel) (by decide +kernel) (by decide +kernel) ha h8 chk23 hb hw
def l29_0 : IC := (.seq (.seq (.reg [⟨(some 7), 0, none, .mv (.t 4)⟩,
  ⟨(some 8), 0, none, .mv (.t 0)⟩,
  ⟨(some 9), 0, none, .len false (.t 8)⟩,
  ⟨(some 10), 0, none, .bin .lss (.t 7) (.t 9)⟩]) (.cond (.t 10) .skip (.exit 0))) (.seq (.block 1 (.seq (.reg [⟨(some 13), 0, none, .mv (.t 0)⟩,
  ⟨(some 14), 0, none, .mv (.t 4)⟩,
  ⟨(some 15), 0, none, .ia (.t 13) (.t 14) 8⟩,
  ⟨(some 16), 0, none, .ld (.t 15) (some 8)⟩,
  ⟨(some 5), 1, none, .alloc [(.int .i64 0), (.int .i64 0), (.int .i64 0), (.int .i64 0), .nilsl, (.str ⟨#[]⟩), (.str ⟨#[]⟩), (.flt 0)]⟩,
  ⟨none, 0, none, .st (.t 5) (.t 16) (some 8)⟩]) (.seq (.reg [⟨(some 6), 0, none, .mv (.c .nilsl)⟩]) (.seq (.reg [⟨(some 17), 0, none, .mv (.t 6)⟩,
  ⟨(some 18), 0, none, .mv (.t 0)⟩,
  ⟨(some 19), 0, none, .mv (.t 4)⟩,
  ⟨(some 20), 0, none, .ia (.t 18) (.t 19) 8⟩,
  ⟨(some 21), 0, none, .fa (.t 20) 4⟩,
  ⟨(some 22), 0, none, .ld (.t 21) none⟩,
  ⟨(some 23), 2, none, .app (.t 17) (.t 22) 1 4 false⟩,
  ⟨(some 24), 0, none, .fa (.t 5) 4⟩,
  ⟨none, 0, none, .st (.t 24) (.t 23) none⟩]) (.pubc 5 4 (.reg [⟨(some 25), 0, none, .mv (.t 3)⟩,
  ⟨(some 26), 0, none, .ld (.t 5) (some 8)⟩,
  ⟨(some 27), 3, none, .bsl 8 [(.t 26)]⟩,
  ⟨(some 28), 4, none, .app (.t 25) (.t 27) 8 96 false⟩,
  ⟨(some 3), 0, none, .mv (.t 28)⟩])))))) (.reg [⟨(some 11), 0, none, .mv (.t 4)⟩,
  ⟨(some 12), 0, none, .bin .add (.t 11) (.c (.int .i64 1))⟩,
  ⟨(some 4), 0, none, .mv (.t 12)⟩])))
def n29_0 : Norm := ⟨[(0, .plain), (3, .own 8 1000003), (4, .plain)], []⟩
def b29 : IC := (.seq (.reg [⟨(some 2), 0, none, .mv (.c .nilsl)⟩]) (.seq (.reg [⟨(some 3), 0, none, .mv (.c .nilsl)⟩]) (.seq (.seq (.reg [⟨(some 4), 0, none, .mv (.c (.int .i64 0))⟩]) (.block 0 (.loop n29_0 l29_0))) (.seq (.reg [⟨(some 29), 0, none, .mv (.t 3)⟩,
  ⟨(some 2), 0, none, .mv (.t 29)⟩]) .ret))))
def rs29 : List (Nat × Option Nat × Mode) := [(2, none, .move 8)]
theorem chk29 : chkC Try.prog Try.f29.ntmps b29 (Try.f29.body.getD .skip) = true := by decide +kernel
theorem top29 {args : List Arg} {out : Out} (ha : args.length.ble Try.f29.ntmps = true) (h8 : args.length.ble 8 = true) (mss : List (List (Option Nat))) (hb : backOK args out.back)
    (hw : rnC Try.prog b29 (topQ rs29 args mss out) (slotsOf (argsAV argBase args 0) 0) (argsOb argBase args 0)) : CW Try.prog 29 args out :=
  CW.of Try.func29 rs29 mss (by decide +kernel) (by decide +kernel) (by decide +kernel) ha h8 chk29 hb hw
def sameR (a b : Rec) : Bool :=
  decide (a.kind = b.kind) && decide (a.lo = b.lo) && decide (a.hi = b.hi) && decide (a.n = b.n) && decide (a.to = b.to) && decide (a.name.data.toList = b.name.data.toList) && decide (a.other.data.toList = b.other.data.toList) && decide ((a.weight : Int) = b.weight)
theorem w46 (a b : Rec) (ha : a.to.length < 9223372036854775808) (hb : b.to.length < 9223372036854775808) (Q : Ex → Slots → LH → Prop) (hQ : ∀ σ H, Slots.get σ 4 = .c (.bool (sameR a b)) → Q .ret σ H) : rnC Try.prog b46 Q [(0, .c (Rec.cv a)), (1, .c (Rec.cv b))] [] := by
  unfold b46
  simp only [go_sem, ↓reduceIte, Nat.reduceEqDiff, Nat.reduceMul, Nat.reduceAdd, Nat.reduceDiv, Nat.reduceSub, Nat.reduceLT, Nat.reduceLeDiff, Int.reduceLE, Int.reduceLT, Int.reduceToNat, Int.reduceEq]
  refine callK_1 _ (fun _ => cw20 a.to b.to ha hb) (by simp only [go_sem, ↓reduceIte, Nat.reduceEqDiff, Nat.reduceMul, Nat.reduceAdd, Nat.reduceDiv, Nat.reduceSub, Nat.reduceLT, Nat.reduceLeDiff, Int.reduceLE, Int.reduceLT, Int.reduceToNat, Int.reduceEq]) rfl rfl ?_
  simp only [go_sem, ↓reduceIte, Nat.reduceEqDiff, Nat.reduceMul, Nat.reduceAdd, Nat.reduceDiv, Nat.reduceSub, Nat.reduceLT, Nat.reduceLeDiff, Int.reduceLE, Int.reduceLT, Int.reduceToNat, Int.reduceEq]
  repeat (refine ⟨by (first | omega | (intro h1 h2; exact ⟨h1, h2⟩) | (intro h1; omega) | (intro h1; exact h1) | trivial), ?_⟩)
  refine callK_1 _ (fun _ => cw69 _) (by simp only [go_sem, ↓reduceIte, Nat.reduceEqDiff, Nat.reduceMul, Nat.reduceAdd, Nat.reduceDiv, Nat.reduceSub, Nat.reduceLT, Nat.reduceLeDiff, Int.reduceLE, Int.reduceLT, Int.reduceToNat, Int.reduceEq]) rfl rfl ?_
  simp only [go_sem, ↓reduceIte, Nat.reduceEqDiff, Nat.reduceMul, Nat.reduceAdd, Nat.reduceDiv, Nat.reduceSub, Nat.reduceLT, Nat.reduceLeDiff, Int.reduceLE, Int.reduceLT, Int.reduceToNat, Int.reduceEq]
  repeat (refine ⟨by (first | omega | (intro h1 h2; exact ⟨h1, h2⟩) | (intro h1; omega) | (intro h1; exact h1) | trivial), ?_⟩)
  refine callK_1 _ (fun _ => cw69 _) (by simp only [go_sem, ↓reduceIte, Nat.reduceEqDiff, Nat.reduceMul, Nat.reduceAdd, Nat.reduceDiv, Nat.reduceSub, Nat.reduceLT, Nat.reduceLeDiff, Int.reduceLE, Int.reduceLT, Int.reduceToNat, Int.reduceEq]) rfl rfl ?_
  simp only [go_sem, ↓reduceIte, Nat.reduceEqDiff, Nat.reduceMul, Nat.reduceAdd, Nat.reduceDiv, Nat.reduceSub, Nat.reduceLT, Nat.reduceLeDiff, Int.reduceLE, Int.reduceLT, Int.reduceToNat, Int.reduceEq]
  repeat (refine ⟨by (first | omega | (intro h1 h2; exact ⟨h1, h2⟩) | (intro h1; omega) | (intro h1; exact h1) | trivial), ?_⟩)
  apply hQ
  simp only [go_sem, ↓reduceIte, Nat.reduceEqDiff, Nat.reduceMul, Nat.reduceAdd, Nat.reduceDiv, Nat.reduceSub, Nat.reduceLT, Nat.reduceLeDiff, Int.reduceLE, Int.reduceLT, Int.reduceToNat, Int.reduceEq, sameR]
  rw [Bool.beq_eq_decide_eq]
theorem cw46 (a b : Rec) (ha : a.to.length < 9223372036854775808) (hb : b.to.length < 9223372036854775808) : CW Try.prog 46 [.cv (Rec.cv a), .cv (Rec.cv b)] ⟨[.cv (.bool (sameR a b))], []⟩ :=
  top46 rfl rfl [] trivial (w46 a b ha hb _ fun σ H h => ret1 rfl h)
def sameL : List Rec → List Rec → Bool
  | [], [] => true
  | a :: s, b :: t => sameR a b && sameL s t
  | _, _ => false
theorem sameL_len : ∀ {s t : List Rec}, ¬ s.length = t.length → sameL s t = false
  | [], [], h => absurd rfl h
  | [], _ :: _, _ => rfl
  | _ :: _, [], _ => rfl
  | a :: s, b :: t, h => by
    rw [sameL, sameL_len (by simpa using h), Bool.and_false]
theorem sameR_self (a : Rec) : sameR a a = true := by simp [sameR]
theorem sameL_self : ∀ s : List Rec, sameL s s = true
  | [] => rfl
  | a :: s => by rw [sameL, sameR_self, sameL_self s]; rfl
theorem w23 (a b : List Rec) (ha : a.length < 9223372036854775808) (hb : b.length < 9223372036854775808) (hta : ∀ r ∈ a, r.to.length ≤ 35184372088832) (htb : ∀ r ∈ b, r.to.length ≤ 35184372088832) (Q : Ex → Slots → LH → Prop) (hQ : ∀ σ H, Slots.get σ 4 = .c (.bool (sameL a b)) → Q .ret σ H) : rnC Try.prog b23 Q [(0, .c (.sl 8 (recs a))), (1, .c (.sl 8 (recs b)))] [] := by
  unfold b23
  simp only [go_sem, ↓reduceIte, Nat.reduceEqDiff, Nat.reduceMul, Nat.reduceAdd, Nat.reduceDiv, Nat.reduceSub, Nat.reduceLT, Nat.reduceLeDiff, Int.reduceLE, Int.reduceLT, Int.reduceToNat, Int.reduceEq]
  refine ⟨fun h => ?_, fun h => ?_⟩
  · apply hQ
    all_goals simp only [go_sem, ↓reduceIte, Nat.reduceEqDiff, Nat.reduceMul, Nat.reduceAdd, Nat.reduceDiv, Nat.reduceSub, Nat.reduceLT, Nat.reduceLeDiff, Int.reduceLE, Int.reduceLT, Int.reduceToNat, Int.reduceEq]
    rw [sameL_len (by omega)]
  refine loopR.by (α := Nat) (fun i => [(0, .c (.sl 8 (recs a))), (1, .c (.sl 8 (recs b))), (5, .c (.int .i64 i))]) (fun i => []) (fun i => a.length - i) (fun i => i ≤ a.length ∧ (sameL (a.drop i) (b.drop i) = sameL a b)) 0 ⟨Nat.zero_le _, rfl⟩ ?_ ?_
  · intro Y hY
    simp only [go_sem, ↓reduceIte, Nat.reduceEqDiff, Nat.reduceMul, Nat.reduceAdd, Nat.reduceDiv, Nat.reduceSub, Nat.reduceLT, Nat.reduceLeDiff, Int.reduceLE, Int.reduceLT, Int.reduceToNat, Int.reduceEq, n23_0]
    exact hY
  intro i hk Y hY
  unfold l23_0
  rcases Nat.lt_or_ge i (a.length) with hlt | hge
  · have hlb : i < b.length := by omega
    obtain ⟨r, e, hm, hd⟩ := recs_at hlt
    obtain ⟨r', e', hm', hd'⟩ := recs_at hlb
    have hf := hk.2
    rw [hd, hd', sameL] at hf
    simp only [go_sem, ↓reduceIte, Nat.reduceEqDiff, Nat.reduceMul, Nat.reduceAdd, Nat.reduceDiv, Nat.reduceSub, Nat.reduceLT, Nat.reduceLeDiff, Int.reduceLE, Int.reduceLT, Int.reduceToNat, Int.reduceEq, n23_0, e, e']
    refine ⟨fun _ => ⟨by omega, by omega, ?_⟩, fun h => by omega⟩
    refine callK_1 _ (fun _ => cw46 r r' (by have := hta r hm; omega) (by have := htb r' hm'; omega)) (by simp only [go_sem, ↓reduceIte, Nat.reduceEqDiff, Nat.reduceMul, Nat.reduceAdd, Nat.reduceDiv, Nat.reduceSub, Nat.reduceLT, Nat.reduceLeDiff, Int.reduceLE, Int.reduceLT, Int.reduceToNat, Int.reduceEq]) rfl rfl ?_
    simp only [go_sem, ↓reduceIte, Nat.reduceEqDiff, Nat.reduceMul, Nat.reduceAdd, Nat.reduceDiv, Nat.reduceSub, Nat.reduceLT, Nat.reduceLeDiff, Int.reduceLE, Int.reduceLT, Int.reduceToNat, Int.reduceEq, e, e']
    repeat (refine ⟨by (first | omega | (intro h1 h2; exact ⟨h1, h2⟩) | (intro h1; omega) | (intro h1; exact h1) | trivial), ?_⟩)
    rw [succ64 hlt (by omega)]
    refine ⟨fun h1 => ?_, fun h1 => hY (i + 1) ⟨hlt, ?_⟩ (by omega)⟩
    · rw [h1, Bool.false_and] at hf
      apply hQ
      all_goals simp only [go_sem, ↓reduceIte, Nat.reduceEqDiff, Nat.reduceMul, Nat.reduceAdd, Nat.reduceDiv, Nat.reduceSub, Nat.reduceLT, Nat.reduceLeDiff, Int.reduceLE, Int.reduceLT, Int.reduceToNat, Int.reduceEq, ← hf]
    · rw [h1, Bool.true_and] at hf
      exact hf
  · have hlen : i = a.length := by omega
    have hf := hk.2
    rw [hlen, List.drop_length, show a.length = b.length by omega, List.drop_length] at hf
    simp only [go_sem, ↓reduceIte, Nat.reduceEqDiff, Nat.reduceMul, Nat.reduceAdd, Nat.reduceDiv, Nat.reduceSub, Nat.reduceLT, Nat.reduceLeDiff, Int.reduceLE, Int.reduceLT, Int.reduceToNat, Int.reduceEq, n23_0]
    exact ⟨fun h => by omega, fun _ => hQ _ _ (by rw [← hf]; rfl)⟩
theorem cw23 (a b : List Rec) (ha : a.length < 9223372036854775808) (hb : b.length < 9223372036854775808) (hta : ∀ r ∈ a, r.to.length ≤ 35184372088832) (htb : ∀ r ∈ b, r.to.length ≤ 35184372088832) : CW Try.prog 23 [.cv (.sl 8 (recs a)), .cv (.sl 8 (recs b))] ⟨[.cv (.bool (sameL a b))], []⟩ :=
  top23 rfl rfl [] trivial (w23 a b ha hb hta htb _ fun σ H h => ret1 rfl h)
theorem w29 (l : List Rec) (hn : l.length ≤ 1000000) (hto : ∀ r ∈ l, r.to.length ≤ 35184372088832) (Q : Ex → Slots → LH → Prop) (hQ : ∀ σ H, OwnAt 8 (recs l) (Slots.get σ 2) H → Q .ret σ H) : rnC Try.prog b29 Q [(0, .c (.sl 8 (recs l)))] [] := by
  unfold b29
  simp only [go_sem, ↓reduceIte, Nat.reduceEqDiff, Nat.reduceMul, Nat.reduceAdd, Nat.reduceDiv, Nat.reduceSub, Nat.reduceLT, Nat.reduceLeDiff, Int.reduceLE, Int.reduceLT, Int.reduceToNat, Int.reduceEq]
  refine loopR.by (α := Nat) (fun i => [(0, .c (.sl 8 (recs l))), (3, .osl 1000003 0 i), (4, .c (.int .i64 i))]) (fun i => [(1000003, .row 8 (recs (l.take i)))]) (fun i => l.length - i) (fun i => i ≤ l.length) 0 (Nat.zero_le _) ?_ ?_
  · intro Y hY
    simp only [go_sem, ↓reduceIte, Nat.reduceEqDiff, Nat.reduceMul, Nat.reduceAdd, Nat.reduceDiv, Nat.reduceSub, Nat.reduceLT, Nat.reduceLeDiff, Int.reduceLE, Int.reduceLT, Int.reduceToNat, Int.reduceEq, n29_0]
    exact hY
  intro i hk Y hY
  unfold l29_0
  rcases Nat.lt_or_ge i l.length with hlt | hge
  · obtain ⟨r, e, hm, hd⟩ := recs_at hlt
    have h1 : List.take i (recs (l.take i)) = recs (l.take i) := List.take_of_length_le (by rw [recs_len, List.length_take]; omega)
    have h2 : (recs (l.take i)).length = i := by rw [recs_len, List.length_take]; omega
    have h3 : List.take r.to.length (runes r.to) = runes r.to := List.take_of_length_le (by rw [runes_len]; omega)
    have h4 : recs (l.take (i + 1)) = recs (l.take i) ++ [r.cv] := by
      rw [List.take_add_one, List.getElem?_eq_getElem hlt]
      have h2 : l.drop i = l[i] :: l.drop (i + 1) := List.drop_eq_getElem_cons hlt
      rw [h2] at hd
      injection hd with hd1 hd2
      rw [hd1]; simp [recs]
    simp only [go_sem, ↓reduceIte, Nat.reduceEqDiff, Nat.reduceMul, Nat.reduceAdd, Nat.reduceDiv, Nat.reduceSub, Nat.reduceLT, Nat.reduceLeDiff, Int.reduceLE, Int.reduceLT, Int.reduceToNat, Int.reduceEq, n29_0, e]
    rw [h1, h2, h3, succ64 hlt (by omega)]
    have := hto r hm
    refine ⟨fun _ => ⟨by omega, by omega, by omega, by omega, rfl, ?_⟩, fun h => by omega⟩
    have := hY (i + 1) hlt (by omega)
    rw [h4] at this
    exact this
  · simp only [go_sem, ↓reduceIte, Nat.reduceEqDiff, Nat.reduceMul, Nat.reduceAdd, Nat.reduceDiv, Nat.reduceSub, Nat.reduceLT, Nat.reduceLeDiff, Int.reduceLE, Int.reduceLT, Int.reduceToNat, Int.reduceEq, n29_0]
    refine ⟨fun h => by omega, fun _ => hQ _ _ (own_at rfl (by rw [recs_len]; omega) ?_)⟩
    rw [List.take_of_length_le hge]; rfl
theorem cw29 (l : List Rec) (hn : l.length ≤ 1000000) (hto : ∀ r ∈ l, r.to.length ≤ 35184372088832) : CW Try.prog 29 [.cv (.sl 8 (recs l))] ⟨[.own 8 (recs l)], []⟩ :=
  top29 rfl rfl [] trivial (w29 l hn hto _ fun σ H h => retO rfl h)
def recP (k lo hi n : Int) (to : List Int) : Rec := ⟨k, lo, hi, n, to, ⟨#[]⟩, ⟨#[]⟩, 0⟩
end Go.Proofs.Ytcpdnpaedkcebaa.V
namespace Go.Proofs.Ytcpdnpaedkcebaa.V
open Go Go.RowKit
set_option linter.unusedVariables false
set_option linter.unusedSimpArgs false
set_option maxRecDepth 100000
theorem CW.pubRes3 {P : Program} {f : FuncId} {args : List Arg} {e : Nat} {xs : List CV} {a b : CV} (hu : unlent args = true) (h : CW P f args ⟨[.own e xs, .cv a, .cv b], []⟩) : CW P f args ⟨[.cv (.sl e xs), .cv a, .cv b], []⟩ := by
  obtain ⟨hf, hb, h⟩ := h
  refine ⟨hf, hb, fun ι S w vals hl hav hhr => ?_⟩
  refine (h ι S w vals hl hav hhr).mono fun en w' hp => ?_
  obtain ⟨v, ι', S', rfl, r1, r2, r3, r4, r5, r6, r7⟩ := hp
  have e1 : retOb args ⟨[.own e xs, .cv a, .cv b], []⟩ = [(retBase, .row e xs)] := by
    simp only [retOb, List.map_cons, List.map_nil, OC.arg, argsOb, Arg.ob, argsOb_back argBase args 0 hu, List.append_nil, Nat.mul_zero, Nat.add_zero]
  have e2 : retOb args ⟨[.cv (.sl e xs), .cv a, .cv b], []⟩ = [] := by
    simp only [retOb, List.map_cons, List.map_nil, OC.arg, argsOb, Arg.ob, argsOb_back argBase args 0 hu, List.append_nil]
  rw [e1] at r1 r2 r4
  have hg : LH.get [(retBase, LObj.row e xs)] retBase = some (.row e xs) := by simp [LH.get]
  have hrow := r2.row _ _ _ hg
  have r1 : AVR ι' [(retBase, LObj.row e xs)] S' w' (.tup [.osl retBase 0 xs.length, .c a, .c b]) v := r1
  obtain ⟨us, rfl, hus, hu0⟩ : ∃ us : Array Value, v = .tuple us ∧ us.size = 3 ∧ ∀ i, i < 3 → AVR ι' [(retBase, LObj.row e xs)] S' w' ([AV.osl retBase 0 xs.length, .c a, .c b].getD i (.c .undef)) (us.getD i Go.undef) := by
    cases r1 with | tup _ us h1 h2 => exact ⟨us, rfl, h1, h2⟩
  have f0 : AVR ι' [(retBase, LObj.row e xs)] S' w' (.osl retBase 0 xs.length) (us.getD 0 Go.undef) := hu0 0 (by decide)
  have f1 : AVR ι' [(retBase, LObj.row e xs)] S' w' (.c a) (us.getD 1 Go.undef) := hu0 1 (by decide)
  have f2 : AVR ι' [(retBase, LObj.row e xs)] S' w' (.c b) (us.getD 2 Go.undef) := hu0 2 (by decide)
  have g1 : VR w' S' a (us.getD 1 Go.undef) := by cases f1 with | c _ _ h => exact h
  have g2 : VR w' S' b (us.getD 2 Go.undef) := by cases f2 with | c _ _ h => exact h
  refine ⟨.tuple us, ι', fun b => S' b ∨ ((ι' retBase).isnil = false ∧ b = (ι' retBase).block), rfl, ?_, ?_, r3, ?_, fun b hb => .inl (r5 b hb), fun b hb => ?_, r7⟩
  · rw [e2]
    refine .tup [.c (.sl e xs), .c a, .c b] us hus fun i hi => ?_
    match i, hi with
    | 0, _ => exact .c _ _ (osl_vr hg f0 hrow)
    | 1, _ => exact .c _ _ (g1.mono fun b o x hs hx => ⟨.inl hs, hx⟩)
    | 2, _ => exact .c _ _ (g2.mono fun b o x hs hx => ⟨.inl hs, hx⟩)
  · rw [e2]
    refine ⟨fun id cs h => (by cases h), fun id e xs h => (by cases h), fun id e xs h => (by cases h), fun i j hi => (by cases hi), fun i hi => (by cases hi), fun i hi => (by cases hi), fun b hb => ?_⟩
    rcases hb with hb | ⟨hn, rfl⟩
    · exact r2.slt b hb
    · exact r2.lt retBase (by unfold Owned; rw [hg]; exact hn)
  · intro id hid
    rw [e2] at hid
    cases hid
  · rcases hb with hb | ⟨hn, rfl⟩
    · exact r6 b hb
    · have := r4 retBase (by unfold Owned; rw [hg]; exact hn)
      rcases this with h1 | h1
      · exact .inr (.inl h1)
      · exact .inr (.inr h1)
theorem callK_O3 {P : Program} {g : Prop} {f : FuncId} {H : List (Nat × LObj)} {u : Nat} {K : AV → List (Nat × LObj) → Prop} {b : Bar K} {args : List Arg} {H' : List (Nat × LObj)} {e : Nat} {xs : List CV} {v v' : CV}
    (h : g → CW P f args ⟨[.own e xs, .cv v, .cv v'], []⟩) (hu : freshC H u) (h8 : args.length.ble 8 = true) (hun : unlent args = true) (hk : K (.tup [.osl (64 * u) 0 xs.length, .c v, .c v']) [(64 * u, .row e xs)]) : callK P g f H u K b args [] [] H' := by
  refine ⟨_, h, by simp, .inl rfl, ⟨hu, Nat.le_of_ble_eq_true h8, by simp, by simp⟩, ?_⟩
  simp only [back_none args 0 hun]
  exact hk
def b31 : IC := (.seq (.reg [⟨(some 4), 0, none, .mv (.c .nilsl)⟩]) (.seq (.reg [⟨(some 5), 0, none, .mv (.t 0)⟩,
  ⟨(some 6), 0, none, .mv (.t 0)⟩,
  ⟨(some 7), 0, none, .len false (.t 6)⟩,
  ⟨(some 8), 0, none, .mv (.t 1)⟩,
  ⟨(some 9), 0, none, .mn (.t 7) (.t 8)⟩,
  ⟨(some 10), 0, none, .slc (.t 5) none (some (.t 9)) none 8⟩,
  ⟨(some 11), 1, none, .call (.c (.fn 29)) [((.t 10), .view 8)]⟩,
  ⟨(some 4), 0, none, .mv (.t 11)⟩]) .ret))
def rs31 : List (Nat × Option Nat × Mode) := [(4, none, .plain)]
theorem chk31 : chkC Try.prog Try.f31.ntmps b31 (Try.f31.body.getD .skip) = true := by decide +kernel
theorem top31 {args : List Arg} {out : Out} (ha : args.length.ble Try.f31.ntmps = true) (h8 : args.length.ble 8 = true) (mss : List (List (Option Nat))) (hb : backOK args out.back)
    (hw : rnC Try.prog b31 (topQ rs31 args mss out) (slotsOf (argsAV argBase args 0) 0) (argsOb argBase args 0)) : CW Try.prog 31 args out :=
  CW.of Try.func31 rs31 mss (by decide +kernel) (by decide +kernel) (by decide +kernel) ha h8 chk31 hb hw
def b34 : IC := (.seq (.reg [⟨(some 0), 0, none, .mv (.c (.bool false))⟩]) (.seq (.reg [⟨(some 8), 0, none, .bld [(.int .i64 0), (.int .i64 0), (.int .i64 0), (.int .i64 0), (.sl 1 []), (.str ⟨#[]⟩), (.str ⟨#[]⟩), (.flt 0)] [(0, (.c (.int .i64 1))), (1, (.c (.int .i64 97))), (2, (.c (.int .i64 122)))]⟩,
  ⟨(some 9), 1, none, .bsl 8 [(.t 8)]⟩,
  ⟨(some 1), 0, none, .mv (.t 9)⟩]) (.seq (.pub 1 (.reg [⟨(some 11), 0, none, .mv (.t 1)⟩,
  ⟨(some 12), 2, none, .call (.c (.fn 32)) [((.t 11), .view 8)]⟩,
  ⟨(some 10), 0, none, .mv (.t 12)⟩,
  ⟨(some 13), 0, none, .ext (.t 10) 0⟩,
  ⟨(some 14), 0, none, .ext (.t 10) 1⟩,
  ⟨(some 15), 0, none, .ext (.t 10) 2⟩,
  ⟨(some 2), 0, none, .mv (.t 13)⟩,
  ⟨(some 3), 0, none, .mv (.t 14)⟩,
  ⟨(some 4), 0, none, .mv (.t 15)⟩])) (.seq (.reg [⟨(some 17), 0, none, .mv (.t 2)⟩,
  ⟨(some 18), 12, none, .call (.c (.fn 37)) [((.t 17), .view 1)]⟩,
  ⟨(some 16), 0, none, .mv (.t 18)⟩,
  ⟨(some 19), 0, none, .ext (.t 16) 0⟩,
  ⟨(some 20), 0, none, .ext (.t 16) 1⟩,
  ⟨(some 21), 0, none, .ext (.t 16) 2⟩,
  ⟨(some 5), 0, none, .mv (.t 19)⟩,
  ⟨(some 6), 0, none, .mv (.t 20)⟩,
  ⟨(some 7), 0, none, .mv (.t 21)⟩]) (.seq (.reg [⟨(some 22), 0, none, .mv (.t 4)⟩,
  ⟨(some 23), 0, none, .bin .eql (.t 22) (.c (.int .i64 0))⟩,
  ⟨(some 24), 0, none, .mv (.t 23)⟩,
  ⟨(some 25), 0, (some (24, true)), .mv (.t 7)⟩,
  ⟨(some 26), 0, (some (24, true)), .bin .eql (.t 25) (.c (.int .i64 0))⟩,
  ⟨(some 27), 0, none, .pick (.t 24) (.t 26) (.c (.bool false))⟩,
  ⟨(some 28), 0, none, .mv (.t 27)⟩,
  ⟨(some 29), 0, (some (28, true)), .mv (.t 2)⟩,
  ⟨(some 30), 0, (some (28, true)), .len false (.t 29)⟩,
  ⟨(some 31), 0, (some (28, true)), .bin .eql (.t 30) (.c (.int .i64 13))⟩,
  ⟨(some 32), 0, none, .pick (.t 28) (.t 31) (.c (.bool false))⟩,
  ⟨(some 33), 0, none, .mv (.t 32)⟩,
  ⟨(some 34), 0, (some (33, true)), .mv (.t 2)⟩,
  ⟨(some 35), 0, (some (33, true)), .slc (.t 34) none (some (.c (.int .i64 9))) none 1⟩,
  ⟨(some 36), 0, (some (33, true)), .b2s (.t 35)⟩,
  ⟨(some 37), 0, (some (33, true)), .bin .eql (.t 36) (.c (.str ⟨#[101, 110, 100, 111, 1, 1, 1, 97, 25]⟩))⟩,
  ⟨(some 38), 0, none, .pick (.t 33) (.t 37) (.c (.bool false))⟩,
  ⟨(some 39), 0, none, .mv (.t 38)⟩,
  ⟨(some 40), 0, (some (39, true)), .mv (.t 1)⟩,
  ⟨(some 41), 0, (some (39, true)), .mv (.t 5)⟩,
  ⟨(some 42), 22, (some (39, true)), .call (.c (.fn 23)) [((.t 40), .view 8), ((.t 41), .view 8)]⟩,
  ⟨(some 43), 0, none, .pick (.t 39) (.t 42) (.c (.bool false))⟩,
  ⟨(some 0), 0, none, .mv (.t 43)⟩]) .ret)))))
def rs34 : List (Nat × Option Nat × Mode) := [(0, none, .plain)]
theorem chk34 : chkC Try.prog Try.f34.ntmps b34 (Try.f34.body.getD .skip) = true := by decide +kernel
theorem top34 {args : List Arg} {out : Out} (ha : args.length.ble Try.f34.ntmps = true) (h8 : args.length.ble 8 = true) (mss : List (List (Option Nat))) (hb : backOK args out.back)
    (hw : rnC Try.prog b34 (topQ rs34 args mss out) (slotsOf (argsAV argBase args 0) 0) (argsOb argBase args 0)) : CW Try.prog 34 args out :=
  CW.of Try.func34 rs34 mss (by decide +kernel) (by decide +kernel) (by decide +kernel) ha h8 chk34 hb hw
theorem w31 (l : List Rec) (most : Nat) (hm : most ≤ 1000000) (hn : l.length < 9223372036854775808) (hto : ∀ r ∈ l, r.to.length ≤ 35184372088832) (Q : Ex → Slots → LH → Prop) (hQ : ∀ σ H, Slots.get σ 4 = .c (.sl 8 (recs (l.take most))) → Q .ret σ H) : rnC Try.prog b31 Q [(0, .c (.sl 8 (recs l))), (1, .c (.int .i64 most))] [] := by
  unfold b31
  have e : ((if (most : Int) < l.length then (most : Int) else l.length).toNat - 0) = (l.take most).length := by
    rw [List.length_take]; split <;> omega
  have e2 : List.take (l.take most).length (recs l) = recs (l.take most) := by
    rw [List.length_take, recs, recs, ← List.map_take]
    congr 1
    rcases Nat.le_total most l.length with h | h
    · rw [Nat.min_eq_left h]
    · rw [Nat.min_eq_right h, List.take_length, List.take_of_length_le h]
  simp only [go_sem, ↓reduceIte, Nat.reduceEqDiff, Nat.reduceMul, Nat.reduceAdd, Nat.reduceDiv, Nat.reduceSub, Nat.reduceLT, Nat.reduceLeDiff, Int.reduceLE, Int.reduceLT, Int.reduceToNat, Int.reduceEq]
  rw [e, e2]
  refine ⟨⟨by split <;> omega, by omega, by split <;> omega, by omega⟩, ?_⟩
  refine callK_1 _ (fun _ => (cw29 (l.take most) (by rw [List.length_take]; omega) (fun r h => hto r (List.mem_of_mem_take h))).pubRes rfl) (by simp only [go_sem, ↓reduceIte, Nat.reduceEqDiff, Nat.reduceMul, Nat.reduceAdd, Nat.reduceDiv, Nat.reduceSub, Nat.reduceLT, Nat.reduceLeDiff, Int.reduceLE, Int.reduceLT, Int.reduceToNat, Int.reduceEq]) rfl rfl ?_
  simp only [go_sem, ↓reduceIte, Nat.reduceEqDiff, Nat.reduceMul, Nat.reduceAdd, Nat.reduceDiv, Nat.reduceSub, Nat.reduceLT, Nat.reduceLeDiff, Int.reduceLE, Int.reduceLT, Int.reduceToNat, Int.reduceEq]
  repeat (refine ⟨by (first | omega | (intro h1 h2; exact ⟨h1, h2⟩) | (intro h1; omega) | (intro h1; exact h1) | trivial), ?_⟩)
  exact hQ _ _ rfl
theorem cw31 (l : List Rec) (most : Nat) (hm : most ≤ 1000000) (hn : l.length < 9223372036854775808) (hto : ∀ r ∈ l, r.to.length ≤ 35184372088832) : CW Try.prog 31 [.cv (.sl 8 (recs l)), .cv (.int .i64 most)] ⟨[.cv (.sl 8 (recs (l.take most)))], []⟩ :=
  top31 rfl rfl [] trivial (w31 l most hm hn hto _ fun σ H h => ret1 rfl h)
def toldL : List Rec := [recP 1 97 122 0 []]
def toldB : List UInt8 := (packF toldL).1
theorem told_pack : packF toldL = (toldB, 0, 0) := by decide +kernel
deriving instance DecidableEq for Rec
theorem told_unpack : unpackF toldB = (toldL, 0, 0) := by decide +kernel
theorem told_len : toldB.length = 13 := by decide +kernel
theorem told_head : toldB.take 9 = [101, 110, 100, 111, 1, 1, 1, 97, 25] := by decide +kernel
theorem told_ok : (∀ r ∈ toldL, r.ok) ∧ (∀ r ∈ toldL, r.wok) ∧ ∀ r ∈ toldL, r.to.length ≤ 35184372088832 := by
  simp [toldL, recP, Rec.ok, Rec.wok, i64ok]
theorem w34  (Q : Ex → Slots → LH → Prop) (hQ : ∀ σ H, Slots.get σ 0 = .c (.bool true) → Q .ret σ H) : rnC Try.prog b34 Q [] [] := by
  unfold b34
  simp only [go_sem, ↓reduceIte, Nat.reduceEqDiff, Nat.reduceMul, Nat.reduceAdd, Nat.reduceDiv, Nat.reduceSub, Nat.reduceLT, Nat.reduceLeDiff, Int.reduceLE, Int.reduceLT, Int.reduceToNat, Int.reduceEq]
  refine callK_3 _ _ _ (fun _ => (cw32 toldL told_ok.1 told_ok.2.1 told_ok.2.2).pubRes3 rfl) (by simp only [go_sem, ↓reduceIte, Nat.reduceEqDiff, Nat.reduceMul, Nat.reduceAdd, Nat.reduceDiv, Nat.reduceSub, Nat.reduceLT, Nat.reduceLeDiff, Int.reduceLE, Int.reduceLT, Int.reduceToNat, Int.reduceEq]) rfl rfl ?_
  simp only [go_sem, ↓reduceIte, Nat.reduceEqDiff, Nat.reduceMul, Nat.reduceAdd, Nat.reduceDiv, Nat.reduceSub, Nat.reduceLT, Nat.reduceLeDiff, Int.reduceLE, Int.reduceLT, Int.reduceToNat, Int.reduceEq]
  repeat (refine ⟨by (first | omega | (intro h1 h2; exact ⟨h1, h2⟩) | (intro h1; omega) | (intro h1; exact h1) | trivial), ?_⟩)
  rw [told_pack]
  refine callK_3 _ _ _ (fun _ => (cw37 toldB (by decide +kernel)).pubRes3 rfl) (by simp only [go_sem, ↓reduceIte, Nat.reduceEqDiff, Nat.reduceMul, Nat.reduceAdd, Nat.reduceDiv, Nat.reduceSub, Nat.reduceLT, Nat.reduceLeDiff, Int.reduceLE, Int.reduceLT, Int.reduceToNat, Int.reduceEq]) rfl rfl ?_
  simp only [go_sem, ↓reduceIte, Nat.reduceEqDiff, Nat.reduceMul, Nat.reduceAdd, Nat.reduceDiv, Nat.reduceSub, Nat.reduceLT, Nat.reduceLeDiff, Int.reduceLE, Int.reduceLT, Int.reduceToNat, Int.reduceEq]
  repeat (refine ⟨by (first | omega | (intro h1 h2; exact ⟨h1, h2⟩) | (intro h1; omega) | (intro h1; exact h1) | trivial), ?_⟩)
  rw [told_unpack]
  have e9 : List.take 9 (bys toldB) = bys [101, 110, 100, 111, 1, 1, 1, 97, 25] := by
    rw [← List.drop_zero (l := bys toldB), bys_cut, List.drop_zero, told_head]
  have e10 : (mkStr (bys [101, 110, 100, 111, 1, 1, 1, 97, 25])).data.toList = [101, 110, 100, 111, 1, 1, 1, 97, 25] := by decide +kernel
  rw [e9, e10, told_len]
  refine ⟨bys_isU8 _, ?_⟩
  refine callK_1 _ (fun _ => cw23 toldL toldL (by decide) (by decide) told_ok.2.2 told_ok.2.2) (by simp only [go_sem, ↓reduceIte, Nat.reduceEqDiff, Nat.reduceMul, Nat.reduceAdd, Nat.reduceDiv, Nat.reduceSub, Nat.reduceLT, Nat.reduceLeDiff, Int.reduceLE, Int.reduceLT, Int.reduceToNat, Int.reduceEq]) rfl rfl ?_
  simp only [go_sem, ↓reduceIte, Nat.reduceEqDiff, Nat.reduceMul, Nat.reduceAdd, Nat.reduceDiv, Nat.reduceSub, Nat.reduceLT, Nat.reduceLeDiff, Int.reduceLE, Int.reduceLT, Int.reduceToNat, Int.reduceEq]
  repeat (refine ⟨by (first | omega | (intro h1 h2; exact ⟨h1, h2⟩) | (intro h1; omega) | (intro h1; exact h1) | trivial), ?_⟩)
  apply hQ
  simp only [go_sem, ↓reduceIte, Nat.reduceEqDiff, Nat.reduceMul, Nat.reduceAdd, Nat.reduceDiv, Nat.reduceSub, Nat.reduceLT, Nat.reduceLeDiff, Int.reduceLE, Int.reduceLT, Int.reduceToNat, Int.reduceEq, sameL_self]
  rfl
theorem cw34  : CW Try.prog 34 [] ⟨[.cv (.bool true)], []⟩ :=
  top34 rfl rfl [] trivial (w34  _ fun σ H h => ret1 rfl h)
end Go.Proofs.Ytcpdnpaedkcebaa.V
namespace Go.Proofs.Ytcpdnpaedkcebaa.V
open Go Go.RowKit
set_option linter.unusedVariables false
set_option linter.unusedSimpArgs false
set_option maxRecDepth 100000
theorem packF_len (l : List Rec) : (packF l).1.length ≤ 262144 := by
  unfold packF
  split
  · exact Nat.zero_le _
  · split
    · exact Nat.zero_le _
    · exact Nat.le_of_not_lt (by assumption)
theorem nines_len {b : List UInt8} {i : Nat} (h : i ≤ b.length) : (List.replicate i (9 : UInt8) ++ b.drop i).length = b.length := by
  rw [List.length_append, List.length_replicate, List.length_drop]; omega
theorem nines_set {b : List UInt8} {i : Nat} (h : i < b.length) : (bys (List.replicate i 9 ++ b.drop i)).set i (.int .u8 9) = bys (List.replicate (i + 1) 9 ++ b.drop (i + 1)) := by
  have e : (bys (List.replicate i 9 ++ b.drop i)) = bys (List.replicate i 9) ++ bys (b.drop i) := (bys_app _ _).symm
  rw [e, List.set_append_right _ _ (by rw [bys_len, List.length_replicate]; exact Nat.le_refl _), bys_len, List.length_replicate, Nat.sub_self, List.drop_eq_getElem_cons h, List.replicate_succ', List.append_assoc, ← bys_app]
  rfl
def l9_0 : IC := (.seq (.seq (.reg [⟨(some 56), 0, none, .mv (.t 13)⟩,
  ⟨(some 57), 0, none, .mv (.t 4)⟩,
  ⟨(some 58), 0, none, .len false (.t 57)⟩,
  ⟨(some 59), 0, none, .bin .lss (.t 56) (.t 58)⟩]) (.cond (.t 59) .skip (.exit 0))) (.seq (.block 1 (.reg [⟨(some 62), 0, none, .mv (.t 4)⟩,
  ⟨(some 63), 0, none, .mv (.t 13)⟩,
  ⟨(some 64), 0, none, .ia (.t 62) (.t 63) 1⟩,
  ⟨none, 0, none, .st (.t 64) (.c (.int .u8 9)) none⟩])) (.reg [⟨(some 60), 0, none, .mv (.t 13)⟩,
  ⟨(some 61), 0, none, .bin .add (.t 60) (.c (.int .i64 1))⟩,
  ⟨(some 13), 0, none, .mv (.t 61)⟩])))
def n9_0 : Norm := ⟨[(0, .plain), (3, .plain), (4, .own 1 1000004), (7, .plain), (10, .plain), (13, .plain)], []⟩
def b9 : IC := (.seq (.reg [⟨(some 2), 0, none, .mv (.c (.bool false))⟩]) (.seq (.reg [⟨(some 14), 0, none, .mv (.t 0)⟩,
  ⟨(some 15), 1, none, .call (.c (.fn 31)) [((.t 14), .view 8), ((.c (.int .i64 120)), .plain)]⟩,
  ⟨(some 3), 0, none, .mv (.t 15)⟩]) (.seq (.reg [⟨(some 17), 0, none, .mv (.t 3)⟩,
  ⟨(some 18), 11, none, .call (.c (.fn 32)) [((.t 17), .view 8)]⟩,
  ⟨(some 16), 0, none, .mv (.t 18)⟩,
  ⟨(some 19), 0, none, .ext (.t 16) 0⟩,
  ⟨(some 20), 0, none, .ext (.t 16) 1⟩,
  ⟨(some 21), 0, none, .ext (.t 16) 2⟩,
  ⟨(some 4), 0, none, .mv (.t 19)⟩,
  ⟨(some 5), 0, none, .mv (.t 20)⟩,
  ⟨(some 6), 0, none, .mv (.t 21)⟩]) (.seq (.reg [⟨(some 23), 0, none, .mv (.t 0)⟩,
  ⟨(some 24), 0, none, .mv (.t 3)⟩,
  ⟨(some 25), 0, none, .len false (.t 24)⟩,
  ⟨(some 26), 0, none, .slc (.t 23) none (some (.t 25)) none 8⟩,
  ⟨(some 27), 21, none, .call (.c (.fn 33)) [((.t 26), .view 8)]⟩,
  ⟨(some 22), 0, none, .mv (.t 27)⟩,
  ⟨(some 28), 0, none, .ext (.t 22) 0⟩,
  ⟨(some 29), 0, none, .ext (.t 22) 1⟩,
  ⟨(some 30), 0, none, .ext (.t 22) 2⟩,
  ⟨(some 7), 0, none, .mv (.t 28)⟩,
  ⟨(some 8), 0, none, .mv (.t 29)⟩,
  ⟨(some 9), 0, none, .mv (.t 30)⟩]) (.seq (.reg [⟨(some 32), 0, none, .mv (.t 3)⟩,
  ⟨(some 33), 31, none, .call (.c (.fn 32)) [((.t 32), .view 8)]⟩,
  ⟨(some 31), 0, none, .mv (.t 33)⟩,
  ⟨(some 34), 0, none, .ext (.t 31) 0⟩,
  ⟨(some 35), 0, none, .ext (.t 31) 1⟩,
  ⟨(some 36), 0, none, .ext (.t 31) 2⟩,
  ⟨(some 10), 0, none, .mv (.t 34)⟩,
  ⟨(some 11), 0, none, .mv (.t 35)⟩,
  ⟨(some 12), 0, none, .mv (.t 36)⟩]) (.seq (.seq (.reg [⟨(some 37), 41, none, .call (.c (.fn 34)) []⟩,
  ⟨(some 38), 0, none, .not (.t 37)⟩,
  ⟨(some 39), 0, none, .mv (.t 38)⟩,
  ⟨(some 40), 0, (some (39, false)), .mv (.t 4)⟩,
  ⟨(some 41), 0, (some (39, false)), .b2s (.t 40)⟩,
  ⟨(some 42), 0, (some (39, false)), .mv (.t 7)⟩,
  ⟨(some 43), 0, (some (39, false)), .b2s (.t 42)⟩,
  ⟨(some 44), 0, (some (39, false)), .bin .neq (.t 41) (.t 43)⟩,
  ⟨(some 45), 0, none, .pick (.t 39) (.c (.bool true)) (.t 44)⟩,
  ⟨(some 46), 0, none, .mv (.t 45)⟩,
  ⟨(some 47), 0, (some (46, false)), .mv (.t 5)⟩,
  ⟨(some 48), 0, (some (46, false)), .mv (.t 8)⟩,
  ⟨(some 49), 0, (some (46, false)), .bin .neq (.t 47) (.t 48)⟩,
  ⟨(some 50), 0, none, .pick (.t 46) (.c (.bool true)) (.t 49)⟩,
  ⟨(some 51), 0, none, .mv (.t 50)⟩,
  ⟨(some 52), 0, (some (51, false)), .mv (.t 6)⟩,
  ⟨(some 53), 0, (some (51, false)), .mv (.t 9)⟩,
  ⟨(some 54), 0, (some (51, false)), .bin .neq (.t 52) (.t 53)⟩,
  ⟨(some 55), 0, none, .pick (.t 51) (.c (.bool true)) (.t 54)⟩]) (.cond (.t 55) (.seq (.reg [⟨(some 2), 0, none, .mv (.c (.bool false))⟩]) .ret) .skip)) (.seq (.seq (.reg [⟨(some 13), 0, none, .mv (.c (.int .i64 0))⟩]) (.block 0 (.loop n9_0 l9_0))) (.seq (.reg [⟨(some 65), 0, none, .mv (.t 10)⟩,
  ⟨(some 66), 0, none, .b2s (.t 65)⟩,
  ⟨(some 67), 0, none, .mv (.t 7)⟩,
  ⟨(some 68), 0, none, .b2s (.t 67)⟩,
  ⟨(some 69), 0, none, .bin .eql (.t 66) (.t 68)⟩,
  ⟨(some 70), 0, none, .mv (.t 69)⟩,
  ⟨(some 71), 0, (some (70, true)), .mv (.t 3)⟩,
  ⟨(some 72), 0, (some (70, true)), .mv (.t 0)⟩,
  ⟨(some 73), 0, (some (70, true)), .mv (.t 3)⟩,
  ⟨(some 74), 0, (some (70, true)), .len false (.t 73)⟩,
  ⟨(some 75), 0, (some (70, true)), .slc (.t 72) none (some (.t 74)) none 8⟩,
  ⟨(some 76), 51, (some (70, true)), .call (.c (.fn 23)) [((.t 71), .view 8), ((.t 75), .view 8)]⟩,
  ⟨(some 77), 0, none, .pick (.t 70) (.t 76) (.c (.bool false))⟩,
  ⟨(some 2), 0, none, .mv (.t 77)⟩]) .ret))))))))
def rs9 : List (Nat × Option Nat × Mode) := [(2, none, .plain)]
theorem chk9 : chkC Try.prog Try.f9.ntmps b9 (Try.f9.body.getD .skip) = true := by decide +kernel
theorem top9 {args : List Arg} {out : Out} (ha : args.length.ble Try.f9.ntmps = true) (h8 : args.length.ble 8 = true) (mss : List (List (Option Nat))) (hb : backOK args out.back)
    (hw : rnC Try.prog b9 (topQ rs9 args mss out) (slotsOf (argsAV argBase args 0) 0) (argsOb argBase args 0)) : CW Try.prog 9 args out :=
  CW.of Try.func9 rs9 mss (by decide +kernel) (by decide +kernel) (by decide +kernel) ha h8 chk9 hb hw
theorem w9 (l : List Rec) (hl : ∀ r ∈ l, r.ok) (hwt : ∀ r ∈ l, r.wok) (hto : ∀ r ∈ l, r.to.length ≤ 35184372088832) (hn : l.length < 9223372036854775808) (Q : Ex → Slots → LH → Prop) (hQ : ∀ σ H, Slots.get σ 2 = .c (.bool true) → Q .ret σ H) : rnC Try.prog b9 Q [(0, .c (.sl 8 (recs l)))] [] := by
  unfold b9
  have hl' : ∀ r ∈ l.take 120, r.ok := fun r h => hl r (List.mem_of_mem_take h)
  have hw' : ∀ r ∈ l.take 120, r.wok := fun r h => hwt r (List.mem_of_mem_take h)
  have ht' : ∀ r ∈ l.take 120, r.to.length ≤ 35184372088832 := fun r h => hto r (List.mem_of_mem_take h)
  have hn' : (l.take 120).length ≤ l.length := by rw [List.length_take]; omega
  have e2 : List.take (l.take 120).length (recs l) = recs (l.take 120) := by
    rw [List.length_take, recs, recs, ← List.map_take]
    congr 1
    rcases Nat.le_total 120 l.length with h | h
    · rw [Nat.min_eq_left h]
    · rw [Nat.min_eq_right h, List.take_length, List.take_of_length_le h]
  simp only [go_sem, ↓reduceIte, Nat.reduceEqDiff, Nat.reduceMul, Nat.reduceAdd, Nat.reduceDiv, Nat.reduceSub, Nat.reduceLT, Nat.reduceLeDiff, Int.reduceLE, Int.reduceLT, Int.reduceToNat, Int.reduceEq]
  refine callK_1 _ (fun _ => cw31 l 120 (by decide) hn hto) (by simp only [go_sem, ↓reduceIte, Nat.reduceEqDiff, Nat.reduceMul, Nat.reduceAdd, Nat.reduceDiv, Nat.reduceSub, Nat.reduceLT, Nat.reduceLeDiff, Int.reduceLE, Int.reduceLT, Int.reduceToNat, Int.reduceEq]) rfl rfl ?_
  simp only [go_sem, ↓reduceIte, Nat.reduceEqDiff, Nat.reduceMul, Nat.reduceAdd, Nat.reduceDiv, Nat.reduceSub, Nat.reduceLT, Nat.reduceLeDiff, Int.reduceLE, Int.reduceLT, Int.reduceToNat, Int.reduceEq]
  repeat (refine ⟨by (first | omega | (intro h1 h2; exact ⟨h1, h2⟩) | (intro h1; omega) | (intro h1; exact h1) | trivial), ?_⟩)
  refine callK_O3 (fun _ => cw32 (l.take 120) hl' hw' ht') (by simp only [go_sem, ↓reduceIte, Nat.reduceEqDiff, Nat.reduceMul, Nat.reduceAdd, Nat.reduceDiv, Nat.reduceSub, Nat.reduceLT, Nat.reduceLeDiff, Int.reduceLE, Int.reduceLT, Int.reduceToNat, Int.reduceEq]) rfl rfl ?_
  simp only [go_sem, ↓reduceIte, Nat.reduceEqDiff, Nat.reduceMul, Nat.reduceAdd, Nat.reduceDiv, Nat.reduceSub, Nat.reduceLT, Nat.reduceLeDiff, Int.reduceLE, Int.reduceLT, Int.reduceToNat, Int.reduceEq]
  repeat (refine ⟨by (first | omega | (intro h1 h2; exact ⟨h1, h2⟩) | (intro h1; omega) | (intro h1; exact h1) | trivial), ?_⟩)
  rw [Nat.sub_zero, e2]
  refine callK_3 _ _ _ (fun _ => (cw33 (l.take 120) hl' hw' ht').pubRes3 rfl) (by simp only [go_sem, ↓reduceIte, Nat.reduceEqDiff, Nat.reduceMul, Nat.reduceAdd, Nat.reduceDiv, Nat.reduceSub, Nat.reduceLT, Nat.reduceLeDiff, Int.reduceLE, Int.reduceLT, Int.reduceToNat, Int.reduceEq]) rfl rfl ?_
  simp only [go_sem, ↓reduceIte, Nat.reduceEqDiff, Nat.reduceMul, Nat.reduceAdd, Nat.reduceDiv, Nat.reduceSub, Nat.reduceLT, Nat.reduceLeDiff, Int.reduceLE, Int.reduceLT, Int.reduceToNat, Int.reduceEq]
  repeat (refine ⟨by (first | omega | (intro h1 h2; exact ⟨h1, h2⟩) | (intro h1; omega) | (intro h1; exact h1) | trivial), ?_⟩)
  refine callK_3 _ _ _ (fun _ => (cw32 (l.take 120) hl' hw' ht').pubRes3 rfl) (by simp only [go_sem, ↓reduceIte, Nat.reduceEqDiff, Nat.reduceMul, Nat.reduceAdd, Nat.reduceDiv, Nat.reduceSub, Nat.reduceLT, Nat.reduceLeDiff, Int.reduceLE, Int.reduceLT, Int.reduceToNat, Int.reduceEq]) rfl rfl ?_
  simp only [go_sem, ↓reduceIte, Nat.reduceEqDiff, Nat.reduceMul, Nat.reduceAdd, Nat.reduceDiv, Nat.reduceSub, Nat.reduceLT, Nat.reduceLeDiff, Int.reduceLE, Int.reduceLT, Int.reduceToNat, Int.reduceEq]
  repeat (refine ⟨by (first | omega | (intro h1 h2; exact ⟨h1, h2⟩) | (intro h1; omega) | (intro h1; exact h1) | trivial), ?_⟩)
  refine callK_1 _ (fun _ => cw34) (by simp only [go_sem, ↓reduceIte, Nat.reduceEqDiff, Nat.reduceMul, Nat.reduceAdd, Nat.reduceDiv, Nat.reduceSub, Nat.reduceLT, Nat.reduceLeDiff, Int.reduceLE, Int.reduceLT, Int.reduceToNat, Int.reduceEq]) rfl rfl ?_
  simp only [go_sem, ↓reduceIte, Nat.reduceEqDiff, Nat.reduceMul, Nat.reduceAdd, Nat.reduceDiv, Nat.reduceSub, Nat.reduceLT, Nat.reduceLeDiff, Int.reduceLE, Int.reduceLT, Int.reduceToNat, Int.reduceEq]
  repeat (refine ⟨by (first | omega | (intro h1 h2; exact ⟨h1, h2⟩) | (intro h1; omega) | (intro h1; exact h1) | trivial), ?_⟩)
  have hlen : (packF (l.take 120)).1.length ≤ 262144 := packF_len _
  generalize packF (l.take 120) = p at *
  have e3 : List.take p.1.length (bys p.1) = bys p.1 := List.take_of_length_le (by rw [bys_len]; exact Nat.le_refl _)
  have e4 : (strOf p.1).data.toList = p.1 := rfl
  rw [e3, mkStr_bys, e4]
  refine ⟨bys_isU8 _, bys_isU8 _, fun h => by simp at h, fun _ => ?_⟩
  refine loopR.by (α := Nat) (fun i => [(0, .c (.sl 8 (recs l))), (3, .c (.sl 8 (recs (l.take 120)))), (4, .osl 1000004 0 p.1.length), (7, .c (.sl 1 (bys p.1))), (10, .c (.sl 1 (bys p.1))), (13, .c (.int .i64 i))]) (fun i => [(1000004, .row 1 (bys (List.replicate i 9 ++ p.1.drop i)))]) (fun i => p.1.length - i) (fun i => i ≤ p.1.length) 0 (Nat.zero_le _) ?_ ?_
  · intro Y hY
    simp only [List.replicate_zero, List.nil_append, List.drop_zero] at hY
    simp only [go_sem, ↓reduceIte, Nat.reduceEqDiff, Nat.reduceMul, Nat.reduceAdd, Nat.reduceDiv, Nat.reduceSub, Nat.reduceLT, Nat.reduceLeDiff, Int.reduceLE, Int.reduceLT, Int.reduceToNat, Int.reduceEq, n9_0]
    first | exact hY | exact ⟨by simp, hY⟩
  intro i hi Y hY
  unfold l9_0
  rcases Nat.lt_or_ge i p.1.length with hlt | hge
  · have hl2 : (List.replicate i (9 : UInt8) ++ p.1.drop i).length = p.1.length := by
      rw [List.length_append, List.length_replicate, List.length_drop]; omega
    have eg := bys_getD (b := List.replicate i (9 : UInt8) ++ p.1.drop i) (k := i) (by omega)
    have es := nines_set (b := p.1) hlt
    simp only [go_sem, ↓reduceIte, Nat.reduceEqDiff, Nat.reduceMul, Nat.reduceAdd, Nat.reduceDiv, Nat.reduceSub, Nat.reduceLT, Nat.reduceLeDiff, Int.reduceLE, Int.reduceLT, Int.reduceToNat, Int.reduceEq, n9_0, eg, es, bys_len, nines_len (b := p.1) (i := i + 1) hlt]
    refine ⟨fun _ => ⟨⟨by omega, by omega⟩, ?_⟩, fun h => by omega⟩
    rw [succ64 hlt (by omega)]
    exact hY (i + 1) hlt (by omega)
  · simp only [go_sem, ↓reduceIte, Nat.reduceEqDiff, Nat.reduceMul, Nat.reduceAdd, Nat.reduceDiv, Nat.reduceSub, Nat.reduceLT, Nat.reduceLeDiff, Int.reduceLE, Int.reduceLT, Int.reduceToNat, Int.reduceEq, n9_0]
    refine ⟨fun h => by omega, fun _ => ?_⟩
    rw [Nat.sub_zero, e2]
    refine ⟨bys_isU8 _, bys_isU8 _, ⟨by omega, by omega, by omega, by omega⟩, ?_⟩
    refine callK_1 _ (fun _ => cw23 (l.take 120) (l.take 120) (by omega) (by omega) ht' ht') (by simp only [go_sem, ↓reduceIte, Nat.reduceEqDiff, Nat.reduceMul, Nat.reduceAdd, Nat.reduceDiv, Nat.reduceSub, Nat.reduceLT, Nat.reduceLeDiff, Int.reduceLE, Int.reduceLT, Int.reduceToNat, Int.reduceEq]) rfl rfl ?_
    simp only [go_sem, ↓reduceIte, Nat.reduceEqDiff, Nat.reduceMul, Nat.reduceAdd, Nat.reduceDiv, Nat.reduceSub, Nat.reduceLT, Nat.reduceLeDiff, Int.reduceLE, Int.reduceLT, Int.reduceToNat, Int.reduceEq]
    repeat (refine ⟨by (first | omega | (intro h1 h2; exact ⟨h1, h2⟩) | (intro h1; omega) | (intro h1; exact h1) | trivial), ?_⟩)
    apply hQ
    simp only [go_sem, ↓reduceIte, Nat.reduceEqDiff, Nat.reduceMul, Nat.reduceAdd, Nat.reduceDiv, Nat.reduceSub, Nat.reduceLT, Nat.reduceLeDiff, Int.reduceLE, Int.reduceLT, Int.reduceToNat, Int.reduceEq, sameL_self]
theorem cw9 (l : List Rec) (hl : ∀ r ∈ l, r.ok) (hwt : ∀ r ∈ l, r.wok) (hto : ∀ r ∈ l, r.to.length ≤ 35184372088832) (hn : l.length < 9223372036854775808) : CW Try.prog 9 [.cv (.sl 8 (recs l))] ⟨[.cv (.bool true)], []⟩ :=
  top9 rfl rfl [] trivial (w9 l hl hwt hto hn _ fun σ H h => ret1 rfl h)
end Go.Proofs.Ytcpdnpaedkcebaa.V
namespace Go.Proofs.Ytcpdnpaedkcebaa.V
open Go Go.RowKit
set_option linter.unusedVariables false
set_option linter.unusedSimpArgs false
set_option maxRecDepth 100000
section
variable {C : Ctx} {ι ι' : Nat → Loc} {S S' : Nat → Prop} {σ σ' : Slots} {H H' : LH} {a a' : Act} {w w' : World}
end
def e0 : IC := (.reg [⟨(some 0), 0, none, .mv (.c .nilsl)⟩])
def e1 : IC := .ret
def z1 (f : Func) : Array Oper := opsOf (seqA (seqB (codeOf f)))
end Go.Proofs.Ytcpdnpaedkcebaa.V
namespace Go.Proofs.Ytcpdnpaedkcebaa.V
open Go Go.RowKit
set_option linter.unusedVariables false
set_option linter.unusedSimpArgs false
set_option maxRecDepth 100000
def All (w : World) (b : Nat) : Prop := b < w.heap.size
def DownV (P : Program) (t : TypeId) (n : Nat) {α : Type} (f : α → CV) (Q : α → Prop) : Prop :=
  (∀ a, (f a).wf n) ∧ ∀ {H : Type} {enc : TypeId × Value → H} {w : World} {base : Nat} {spare : Nat → Bool} {held : Bool} {fuel : Nat} {cs : List Value} {x : DataW H × List MemPlace},
    DataW.trod enc P w base spare held fuel t cs = some x → ∃ a, cs.length = n ∧ (∀ j, j < n → VR w (All w) ((f a).cells.getD j .undef) (cs.getD j Go.undef)) ∧ ((∀ n ∈ x.1.weights P t, n ≤ reachBytes) → Q a)
theorem dv_int {P : Program} {t : TypeId} {k : IntKind} (ht : P.underlying t = some (.int k)) : DownV P t 1 (fun a : Int => CV.int k a) (fun a => (Lit.int k a).wf = true) := by
  refine ⟨fun a => ⟨rfl, by simp [CV.cells, CV.one]⟩, ?_⟩
  intro H enc w base spare held fuel cs x h
  obtain ⟨n, rfl, rfl, hw⟩ := DataW.trod_int ht h
  refine ⟨n, rfl, fun j hj => ?_, fun _ => hw⟩
  have : j = 0 := by omega
  subst this
  exact .int _ _
theorem dv_str {P : Program} {t : TypeId} (ht : P.underlying t = some .string) : DownV P t 1 (fun a : ByteArray => CV.str a) (fun _ => True) := by
  refine ⟨fun a => ⟨rfl, by simp [CV.cells, CV.one]⟩, ?_⟩
  intro H enc w base spare held fuel cs x h
  obtain ⟨s, rfl, rfl, hs⟩ := DataW.trod_string ht h
  refine ⟨s, rfl, fun j hj => ?_, fun _ => trivial⟩
  have : j = 0 := by omega
  subst this
  exact .str _
theorem dv_flt {P : Program} {t : TypeId} (ht : P.underlying t = some (.float .f64)) : DownV P t 1 (fun a : Nat => CV.flt a) (fun a => (Lit.float .f64 a).wf = true) := by
  refine ⟨fun a => ⟨rfl, by simp [CV.cells, CV.one]⟩, ?_⟩
  intro H enc w base spare held fuel cs x h
  cases fuel with
  | zero => simp [DataW.trod] at h
  | succ n =>
    unfold DataW.trod at h
    rw [ht] at h
    split at h <;> simp_all
    obtain ⟨⟨rfl, hw⟩, rfl⟩ := h
    subst_vars
    exact ⟨_, .flt _, fun _ => hw⟩
theorem wts_all {H : Type} {P : Program} {e : TypeId} : ∀ {l : List (DataW H)} {d : DataW H}, d ∈ l → ∀ n ∈ d.weights P e, n ∈ DataW.weightsAll P e l
  | d0 :: r, d, hd, n, hn => by
    simp only [DataW.weightsAll, List.mem_append]
    rcases List.mem_cons.1 hd with rfl | hd
    · exact .inl hn
    · exact .inr (wts_all hd n hn)
theorem dv_slice {P : Program} {α : Type} [Inhabited α] {f : α → CV} {Q : α → Prop} {t e n B : Nat} (ht : P.underlying t = some (.slice e)) (hC : P.cellsOf e = n) (hn : 0 < n) (hB : P.bytesOf e = B) (hd : DownV P e n f Q) :
    DownV P t 1 (fun l : List α => CV.sl n (l.map f)) (fun l => l.length * B ≤ reachBytes ∧ ∀ x ∈ l, Q x) := by
  refine ⟨fun a => ⟨rfl, by simp [CV.cells, CV.one]⟩, ?_⟩
  intro H enc w base spare held fuel cs x h
  rcases Go.Deep.open_slice ht h with ⟨rfl, rfl⟩ | ⟨a, len, cap, m, k, D, Pl, rfl, hb, hl, hm, hmm, rfl, hi⟩
  · refine ⟨[], rfl, fun j hj => ?_, fun _ => ⟨by simp, by simp⟩⟩
    have : j = 0 := by omega
    subst this
    exact .slnil _ _ _
  · have hlm : len ≤ m := by
      rw [hmm]
      split <;> omega
    obtain ⟨g, hg⟩ := Go.Deep.choose_lt (n := len) (p := fun i (y : α × List Value) => w.cells? base (a.add (i * P.cellsOf e)) (P.cellsOf e) = some y.2 ∧ (∀ j, j < n → VR w (All w) ((f y.1).cells.getD j .undef) (y.2.getD j Go.undef)) ∧ ((∀ n ∈ (D i).weights P e, n ≤ reachBytes) → Q y.1)) (fun i hi' => by
      obtain ⟨cs', hc, ht'⟩ := hi i (by omega)
      obtain ⟨y, hy, hv, hq⟩ := hd.2 ht'
      exact ⟨(y, cs'), hc, hv, hq⟩)
    refine ⟨(List.range len).map fun i => (g i).1, rfl, fun j hj => ?_, fun hw => ⟨?_, ?_⟩⟩
    · have : j = 0 := by omega
      subst this
      show VR w (All w) (.sl n (((List.range len).map fun i => (g i).1).map f)) (.slice (some a) len cap)
      by_cases h0 : len = 0
      · subst h0; exact .slnil _ _ _
      have hcell : ∀ i, i < len → ∀ j, j < n → w.cell? ⟨a.block, a.off + (i * n + j), none⟩ = some ((g i).2.getD j Go.undef) := by
        intro i hi' j hj
        obtain ⟨hc, _, _⟩ := hg i hi'
        rw [hC] at hc
        obtain ⟨_, hcl, hat⟩ := World.cells?_some hc
        have h1 := hat j hj
        rw [Go.Deep.add_add] at h1
        have h2 : (g i).2[j]? = some ((g i).2.getD j Go.undef) := by
          rw [List.getD_eq_getElem?_getD, List.getElem?_eq_getElem (by omega)]; rfl
        rw [h2] at h1
        unfold Addr.add at h1
        split at h1
        · rename_i e0
          rw [e0, Nat.add_zero]
          have hsp : a.spot = none := by
            cases hs : a.spot with
            | none => rfl
            | some s =>
              rw [World.cell?, hs] at h1
              split at h1 <;> simp at h1
          have : a = ⟨a.block, a.off, none⟩ := by cases a; simp_all
          rw [this] at h1
          exact h1
        · exact h1
      have hsp : a = ⟨a.block, a.off, none⟩ := by
        obtain ⟨hc, _, _⟩ := hg 0 (by omega)
        rw [hC] at hc
        obtain ⟨_, hcl, hat⟩ := World.cells?_some hc
        have h1 := hat 0 hn
        rw [Go.Deep.add_add, Nat.zero_mul, Nat.zero_add] at h1
        have h2 : (g 0).2[0]? = some ((g 0).2.getD 0 Go.undef) := by
          rw [List.getD_eq_getElem?_getD, List.getElem?_eq_getElem (by omega)]; rfl
        rw [h2] at h1
        unfold Addr.add at h1
        rw [if_pos rfl] at h1
        have hsp : a.spot = none := by
          cases hs : a.spot with
          | none => rfl
          | some s =>
            rw [World.cell?, hs] at h1
            split at h1 <;> simp at h1
        cases a; simp_all
      rw [hsp]
      have hl2 : (((List.range len).map fun i => (g i).1).map f).length = len := by simp
      have := VR.sl (w := w) (S := All w) n (((List.range len).map fun i => (g i).1).map f) a.block a.off cap (fun i j => (g i).2.getD j Go.undef) (by rw [hl2]; exact hl) (fun x hx => by
        obtain ⟨y, _, rfl⟩ := List.mem_map.1 hx
        exact hd.1 y) (fun i j hi' hj => by
          rw [hl2] at hi'
          exact ⟨cell_lt (hcell i hi' j hj), hcell i hi' j hj⟩) (fun i j hi' hj => by
          rw [hl2] at hi'
          have e1 : (((List.range len).map fun i => (g i).1).map f).getD i .undef = f (g i).1 := by
            simp [List.getD_eq_getElem?_getD, hi']
          rw [e1]
          exact (hg i hi').2.1 j hj)
      rw [hl2] at this
      exact this
    · have h1 := hw ((((List.range len).map D).length + ((List.range (m - len)).map fun j => D (len + j)).length) * P.bytesOf e) (by simp [DataW.weights, ht])
      simp only [List.length_map, List.length_range] at h1 ⊢
      rw [hB] at h1
      exact Nat.le_trans (Nat.mul_le_mul_right _ (Nat.le_add_right _ _)) h1
    · intro y hy
      obtain ⟨i, hir, rfl⟩ := List.mem_map.1 hy
      have hil : i < len := List.mem_range.1 hir
      obtain ⟨_, _, hq⟩ := hg i hil
      refine hq (fun n hn => hw n ?_)
      have h1 := wts_all (P := P) (e := e) (l := (List.range len).map D) (List.mem_map.2 ⟨i, hir, rfl⟩) n hn
      simp only [DataW.weights, ht, List.mem_cons, List.mem_append]
      exact .inr (.inl h1)
def Rec.wf (r : Rec) : Prop := r.ok ∧ r.to.length ≤ 35184372088832 ∧ r.weight < 18446744073709551616
instance : Inhabited Rec := ⟨⟨0, 0, 0, 0, [], ⟨#[]⟩, ⟨#[]⟩, 0⟩⟩
theorem i64_of {n : Int} (h : (Lit.int .i64 n).wf = true) : i64ok n := by
  simp [Lit.wf, IntKind.min, IntKind.max, IntKind.bits, IntKind.signed] at h
  unfold i64ok
  omega
theorem i32_of {n : Int} (h : (Lit.int .i32 n).wf = true) : i32ok n := by
  simp [Lit.wf, IntKind.min, IntKind.max, IntKind.bits, IntKind.signed] at h
  unfold i32ok
  omega
theorem dv_rec : DownV Try.prog 47 8 Rec.cv Rec.wf := by
  refine ⟨fun a => ⟨rfl, by simp [Rec.cv, CV.cells, CV.one]⟩, ?_⟩
  intro H enc w base spare held fuel cs x h
  obtain ⟨ys, n, -, hx, hlen, hyl, hf⟩ := DataW.trod_struct Try.underlying47 h
  subst hx
  have hcl : cs.length = 8 := hlen.trans (by kernel_rfl)
  obtain ⟨c0, c1, c2, c3, c4, c5, c6, c7, rfl⟩ : ∃ c0 c1 c2 c3 c4 c5 c6 c7, cs = [c0, c1, c2, c3, c4, c5, c6, c7] := by
    match cs, hcl with
    | [c0, c1, c2, c3, c4, c5, c6, c7], _ => exact ⟨_, _, _, _, _, _, _, _, rfl⟩
  have hyl2 : ys.length = 8 := hyl
  obtain ⟨y0, y1, y2, y3, y4, y5, y6, y7, rfl⟩ : ∃ y0 y1 y2 y3 y4 y5 y6 y7, ys = [y0, y1, y2, y3, y4, y5, y6, y7] := by
    match ys, hyl2 with
    | [y0, y1, y2, y3, y4, y5, y6, y7], _ => exact ⟨_, _, _, _, _, _, _, _, rfl⟩
  have g0 : DataW.trod enc Try.prog w base spare held n 3 [c0] = some y0 := by
    have e1 : Try.prog.cellsOf 3 = 1 := by kernel_rfl
    have e2 : DataW.trod enc Try.prog w base spare held n 3 (([c0, c1, c2, c3, c4, c5, c6, c7].drop 0).take (Try.prog.cellsOf 3)) = some y0 := hf 0 _ rfl
    rw [e1] at e2
    exact e2
  have g1 : DataW.trod enc Try.prog w base spare held n 3 [c1] = some y1 := by
    have e1 : Try.prog.cellsOf 3 = 1 := by kernel_rfl
    have e2 : DataW.trod enc Try.prog w base spare held n 3 (([c0, c1, c2, c3, c4, c5, c6, c7].drop 1).take (Try.prog.cellsOf 3)) = some y1 := hf 1 _ rfl
    rw [e1] at e2
    exact e2
  have g2 : DataW.trod enc Try.prog w base spare held n 3 [c2] = some y2 := by
    have e1 : Try.prog.cellsOf 3 = 1 := by kernel_rfl
    have e2 : DataW.trod enc Try.prog w base spare held n 3 (([c0, c1, c2, c3, c4, c5, c6, c7].drop 2).take (Try.prog.cellsOf 3)) = some y2 := hf 2 _ rfl
    rw [e1] at e2
    exact e2
  have g3 : DataW.trod enc Try.prog w base spare held n 3 [c3] = some y3 := by
    have e1 : Try.prog.cellsOf 3 = 1 := by kernel_rfl
    have e2 : DataW.trod enc Try.prog w base spare held n 3 (([c0, c1, c2, c3, c4, c5, c6, c7].drop 3).take (Try.prog.cellsOf 3)) = some y3 := hf 3 _ rfl
    rw [e1] at e2
    exact e2
  have g4 : DataW.trod enc Try.prog w base spare held n 23 [c4] = some y4 := by
    have e1 : Try.prog.cellsOf 23 = 1 := by kernel_rfl
    have e2 : DataW.trod enc Try.prog w base spare held n 23 (([c0, c1, c2, c3, c4, c5, c6, c7].drop 4).take (Try.prog.cellsOf 23)) = some y4 := hf 4 _ rfl
    rw [e1] at e2
    exact e2
  have g5 : DataW.trod enc Try.prog w base spare held n 9 [c5] = some y5 := by
    have e1 : Try.prog.cellsOf 9 = 1 := by kernel_rfl
    have e2 : DataW.trod enc Try.prog w base spare held n 9 (([c0, c1, c2, c3, c4, c5, c6, c7].drop 5).take (Try.prog.cellsOf 9)) = some y5 := hf 5 _ rfl
    rw [e1] at e2
    exact e2
  have g6 : DataW.trod enc Try.prog w base spare held n 9 [c6] = some y6 := by
    have e1 : Try.prog.cellsOf 9 = 1 := by kernel_rfl
    have e2 : DataW.trod enc Try.prog w base spare held n 9 (([c0, c1, c2, c3, c4, c5, c6, c7].drop 6).take (Try.prog.cellsOf 9)) = some y6 := hf 6 _ rfl
    rw [e1] at e2
    exact e2
  have g7 : DataW.trod enc Try.prog w base spare held n 45 [c7] = some y7 := by
    have e1 : Try.prog.cellsOf 45 = 1 := by kernel_rfl
    have e2 : DataW.trod enc Try.prog w base spare held n 45 (([c0, c1, c2, c3, c4, c5, c6, c7].drop 7).take (Try.prog.cellsOf 45)) = some y7 := hf 7 _ rfl
    rw [e1] at e2
    exact e2
  obtain ⟨b0, -, v0, q0⟩ := (dv_int Try.underlying3).2 g0
  obtain ⟨b1, -, v1, q1⟩ := (dv_int Try.underlying3).2 g1
  obtain ⟨b2, -, v2, q2⟩ := (dv_int Try.underlying3).2 g2
  obtain ⟨b3, -, v3, q3⟩ := (dv_int Try.underlying3).2 g3
  obtain ⟨b4, -, v4, q4⟩ := (dv_slice (B := 4) Try.underlying23 (by kernel_rfl) (by decide) (by kernel_rfl) (dv_int Try.underlying21)).2 g4
  obtain ⟨b5, -, v5, q5⟩ := (dv_str Try.underlying9).2 g5
  obtain ⟨b6, -, v6, q6⟩ := (dv_str Try.underlying9).2 g6
  obtain ⟨b7, -, v7, q7⟩ := (dv_flt Try.underlying45).2 g7
  refine ⟨⟨b0, b1, b2, b3, b4, b5, b6, b7⟩, rfl, fun j hj => ?_, fun hw => ?_⟩
  · match j, hj with
    | 0, _ => exact v0 0 (by decide)
    | 1, _ => exact v1 0 (by decide)
    | 2, _ => exact v2 0 (by decide)
    | 3, _ => exact v3 0 (by decide)
    | 4, _ => exact v4 0 (by decide)
    | 5, _ => exact v5 0 (by decide)
    | 6, _ => exact v6 0 (by decide)
    | 7, _ => exact v7 0 (by decide)
  · simp only [DataW.weights, Try.underlying47, List.map_cons, List.map_nil, DataW.weightsEach, List.mem_append, List.not_mem_nil, or_false] at hw
    have z4 := q4 fun m hm => hw m (.inr (.inr (.inr (.inr (.inl hm)))))
    refine ⟨⟨i64_of (q0 fun m hm => hw m (.inl hm)), i64_of (q1 fun m hm => hw m (.inr (.inl hm))), i64_of (q2 fun m hm => hw m (.inr (.inr (.inl hm)))), i64_of (q3 fun m hm => hw m (.inr (.inr (.inr (.inl hm))))), fun c hc => i32_of (z4.2 c hc)⟩, ?_, ?_⟩
    · have := z4.1
      unfold reachBytes at this
      show b4.length ≤ _
      omega
    · have := q7 fun m hm => hw m (.inr (.inr (.inr (.inr (.inr (.inr (.inr hm)))))))
      simpa [Lit.wf] using this
theorem arg_recs {H : Type} {enc : TypeId × Value → H} {W : World} {base : Nat} {spare : Nat → Bool} {held : Bool} {dd : DataW H} {ps : List MemPlace} {ts : List TypeId} {ds : List (DataW H)} {j : Nat}
    (hsz : (DataW.weightsEach Try.prog ts ds).all (· ≤ reachBytes) = true) (ht : ts[j]? = some 22) (hdd : ds[j]? = some dd) {a : Option Addr} {len cap : Nat} (h : DataW.Trod enc Try.prog W base spare held 22 (.slice a len cap) dd ps) :
    ∃ l : List Rec, VR W (All W) (.sl 8 (recs l)) (.slice a len cap) ∧ l.length < 9223372036854775808 ∧ (∀ r ∈ l, r.ok) ∧ (∀ r ∈ l, r.to.length ≤ 35184372088832) ∧ ∀ r ∈ l, r.weight < 18446744073709551616 := by
  obtain ⟨fuel, hf⟩ := h
  obtain ⟨l, -, hv, hq⟩ := (dv_slice (B := 96) Try.underlying22 (by kernel_rfl) (by decide) (by kernel_rfl) dv_rec).2 hf
  have z := hq fun n hn => by
    have z := List.all_eq_true.1 hsz _ (DataW.weights_mem_each ht hdd n hn)
    simpa using z
  have z1 := z.1
  unfold reachBytes at z1
  refine ⟨l, hv 0 (by decide), by omega, fun r hr => (z.2 r hr).1, fun r hr => (z.2 r hr).2.1, fun r hr => (z.2 r hr).2.2⟩
theorem hr_nil (ι : Nat → Loc) (w : World) : HR ι (All w) [] w := by
  have nope : ∀ id, ¬ Owned ι [] id := fun id ho => by unfold Owned at ho; simp [LH.get] at ho
  exact ⟨fun id cs hg => by simp [LH.get] at hg, fun id e xs hg => by simp [LH.get] at hg, fun id e xs hg => by simp [LH.get] at hg, fun i j hi => absurd hi (nope _), fun i hi => absurd hi (nope _), fun i hi => absurd hi (nope _), fun b hb => hb⟩
theorem calls1 {P : Program} {f : FuncId} {x : CV} (h : CW P f [.cv x] ⟨[.cv (.bool true)], []⟩) {w : World} {u : Value} (hu : VR w (All w) x u) :
    Calls P f #[u] w fun e w' => e = .returned (.bool true) ∧ Below w.heap.size w w' := by
  refine (h.2.2 (fun _ => ⟨0, 0, 0, true⟩) (All w) w [u] rfl (fun j hj => ?_) (hr_nil _ w)).mono fun e w' hp => ?_
  · match j, hj with
    | 0, _ => exact .c _ _ hu
  · obtain ⟨r, ι', S', rfl, r1, r2, r3, r4, r5, r6, r7⟩ := hp
    have e1 := avr_bool (v := .c (.bool true)) r1
    exact ⟨by rw [e1], r7.below fun b ⟨id, ho, _⟩ => ho⟩
end Go.Proofs.Ytcpdnpaedkcebaa.V
