/- Contracts by hand: table.Check. -/
import Derived.Test.YtcpdnpaedkcebaaXk
namespace Go.Proofs.Ytcpdnpaedkcebaa.V
open Go Go.RowKit
set_option linter.unusedVariables false
set_option linter.unusedSimpArgs false
set_option maxRecDepth 100000
def rs30 : List (Nat × Option Nat × Mode) := [(2, none, .plain), (3, none, .plain)]
def x10 (f : Func) : Array Oper := opsOf (seqA (seqB (seqB (seqB (codeOf f)))))
def x15 (f : Func) : Array Oper := opsOf (seqA (seqA (seqB (seqB (blkC (seqA (seqB (seqB (loopC (blkC (seqB (seqA (seqB (seqB (seqB (seqB (codeOf f)))))))))))))))))
def x21 (f : Func) : Array Oper := opsOf (seqB (seqB (seqB (blkC (seqA (seqB (seqB (loopC (blkC (seqB (seqA (seqB (seqB (seqB (seqB (codeOf f))))))))))))))))
def at_ (x : Array Oper) (i : Nat) : Oper := x.toList.getD i default
theorem x10_l : (x10 Try.f30).toList = [at_ (x10 Try.f30) 0, at_ (x10 Try.f30) 1] := by kernel_rfl
theorem x10_0 : (at_ (x10 Try.f30) 0).op = .makeMap 87 none ∧ (at_ (x10 Try.f30) 0).dst = some 30 ∧ (at_ (x10 Try.f30) 0).guard = none := ⟨by kernel_rfl, by kernel_rfl, by kernel_rfl⟩
theorem x10_1 : (at_ (x10 Try.f30) 1).op = .assign (.tmp 30) ∧ (at_ (x10 Try.f30) 1).dst = some 7 ∧ (at_ (x10 Try.f30) 1).guard = none := ⟨by kernel_rfl, by kernel_rfl, by kernel_rfl⟩
theorem x15_l : (x15 Try.f30).toList = (x15 Try.f30).toList.take 2 ++ (at_ (x15 Try.f30) 2 :: (x15 Try.f30).toList.drop 3) := by kernel_rfl
theorem x15_a : chkOps Try.prog Try.f30.ntmps (x15 Try.f30) ((x15 Try.f30).toList.take 2) q15a = true := by decide +kernel
theorem x15_b : chkOps Try.prog Try.f30.ntmps (x15 Try.f30) ((x15 Try.f30).toList.drop 3) q15b = true := by decide +kernel
theorem x15_2 : (at_ (x15 Try.f30) 2).op = .lookup 87 (.tmp 41) (.tmp 42) false ∧ (at_ (x15 Try.f30) 2).dst = some 43 ∧ (at_ (x15 Try.f30) 2).guard = none := ⟨by kernel_rfl, by kernel_rfl, by kernel_rfl⟩
theorem x21_l : (x21 Try.f30).toList = (x21 Try.f30).toList.take 4 ++ (at_ (x21 Try.f30) 4 :: (((x21 Try.f30).toList.drop 5).take 3 ++ [at_ (x21 Try.f30) 8])) := by kernel_rfl
theorem x21_a : chkOps Try.prog Try.f30.ntmps (x21 Try.f30) ((x21 Try.f30).toList.take 4) q21a = true := by decide +kernel
theorem x21_b : chkOps Try.prog Try.f30.ntmps (x21 Try.f30) (((x21 Try.f30).toList.drop 5).take 3) q21b = true := by decide +kernel
theorem x21_4 : (at_ (x21 Try.f30) 4).op = .lookup 87 (.tmp 92) (.tmp 93) false ∧ (at_ (x21 Try.f30) 4).dst = some 94 ∧ (at_ (x21 Try.f30) 4).guard = none := ⟨by kernel_rfl, by kernel_rfl, by kernel_rfl⟩
theorem x21_8 : (at_ (x21 Try.f30) 8).op = .mapUpdate 87 (.tmp 90) (.tmp 91) (.tmp 97) ∧ (at_ (x21 Try.f30) 8).dst = none ∧ (at_ (x21 Try.f30) 8).guard = none := ⟨by kernel_rfl, by kernel_rfl, by kernel_rfl⟩
theorem n30 : Try.f30.ntmps = 99 := by kernel_rfl
section
variable {C : Ctx} {ι : Nat → Loc} {S : Nat → Prop} {σ : Slots} {H : LH} {a : Act} {w : World} {m : Nat}
/-- The map is made. -/
theorem reg10 {l : List Rec} {Q : Exit → Act → World → Prop} (hn : C.n = Try.f30.ntmps) (hR : R C ι S [(0, .c (.sl 8 (recs l)))] [] a w)
    (hK : ∀ m a' w' g L, R C ι S [(0, .c (.sl 8 (recs l))), (7, .c (.raw (.map (some m))))] [] a' w' → Fams C ι S [] w' [] m none g L → Q .normal a' w') :
    (Code.region 10 (x10 Try.f30) false).wp Try.prog Q a w := by
  refine wp_region_list ?_
  rw [x10_l]
  obtain ⟨p1, p2, p3⟩ := x10_0
  obtain ⟨q1, q2, q3⟩ := x10_1
  refine op_val p3 (ex_map p1) ?_
  rw [p2]
  obtain ⟨h1, hh⟩ := hR.newhid (.map #[] 0)
  have h2 := h1.put (d := some 30) (av := .c (.raw (.map (some w.heap.size)))) (v := .map (some w.heap.size)) (.c _ _ (.raw _)) (fun k hk => by injection hk with hk; subst hk; rw [hn, n30]; decide)
  have hv := slot_raw h2 (t := 30) rfl
  refine op_val (v := (a.put (some 30) (.map (some w.heap.size))).tmps.getD 30 Go.undef) q3 (by
    unfold execOp
    simp only [q1]
    rfl) ?_
  rw [q2, hv]
  have h3 := h2.put (d := some 7) (av := .c (.raw (.map (some w.heap.size)))) (v := .map (some w.heap.size)) (.c _ _ (.raw _)) (fun k hk => by injection hk with hk; subst hk; rw [hn, n30]; decide)
  unfold wpList
  refine hK w.heap.size _ _ (fun _ => .slice none 0 0) (fun _ => ⟨0, 0, 0, true⟩) (h3.weak (l := [(0, .c (.sl 8 (recs l))), (7, .c (.raw (.map (some w.heap.size))))]) ⟨rfl, rfl, trivial⟩) ⟨MapAt.new w isI _, hh, hR.fr.size, fun f _ => ?_, fun f => ?_, fun f _ hn => (by cases hn), fun f f' hn => (by cases hn)⟩
  · unfold RowR; simp [fam, recs]
  · unfold SliceAt
    simp [fam]
end
theorem cw30 (l : List Rec) (hl : ∀ r ∈ l, r.ok) (hto : ∀ r ∈ l, r.to.length ≤ 35184372088832) : CW Try.prog 30 [.cv (.sl 8 (recs l))] ⟨[.cv (.int .i64 (checkP l).1), .cv (.int .i64 (checkP l).2)], []⟩ := by
  refine CW.hand (c := codeOf Try.f30) rs30 [] Try.func30 (by kernel_rfl) (by decide +kernel) (by decide +kernel) (by show 1 ≤ _; rw [n30]; decide) (by show 1 ≤ 8; decide) trivial (fun C ι S a w hn hO' hR => ?_)
  have hO : ∀ b, ¬ C.O b := fun b hb => by rw [hO'] at hb; obtain ⟨id, ho, _⟩ := hb; exact ho
  have fin : ∀ {e : Exit} {ι1 : Nat → Loc} {S1 : Nat → Prop} {σ1 : Slots} {H1 : LH} {a1 : Act} {w1 : World} {p : Int × Int}, (e = .normal ∨ e = .ret) → p = checkP l → R C ι1 S1 σ1 H1 a1 w1 → Slots.get σ1 2 = .c (.int .i64 p.1) → Slots.get σ1 3 = .c (.int .i64 p.2) →
      (e = .normal ∨ e = .ret) ∧ ∃ ι' S' σ' H', R C ι' S' σ' H' a1 w1 ∧ retW σ' H' rs30 [.cv (.sl 8 (recs l))] [] ⟨[.cv (.int .i64 (checkP l).1), .cv (.int .i64 (checkP l).2)], []⟩ := by
    intro e ι1 S1 σ1 H1 a1 w1 p he hp h h2 h3
    subst hp
    exact ⟨he, ι1, S1, σ1, H1, h, ret2 rfl h2 h3⟩
  have hR : R C ι S [(0, .c (.sl 8 (recs l)))] [] a w := hR
  generalize hQ : (fun (e : Exit) (a1 : Act) (w1 : World) => (e = .normal ∨ e = .ret) ∧ ∃ ι' S' σ' H', R C ι' S' σ' H' a1 w1 ∧ retW σ' H' rs30 [.cv (.sl 8 (recs l))] [] ⟨[.cv (.int .i64 (checkP l).1), .cv (.int .i64 (checkP l).2)], []⟩) = Q
  have fin : ∀ {ι1 : Nat → Loc} {S1 : Nat → Prop} {σ1 : Slots} {H1 : LH} {a1 : Act} {w1 : World} {p : Int × Int}, p = checkP l → R C ι1 S1 σ1 H1 a1 w1 → Slots.get σ1 2 = .c (.int .i64 p.1) → Slots.get σ1 3 = .c (.int .i64 p.2) → Q .ret a1 w1 := by
    subst hQ; exact fun hp h h2 h3 => fin (.inr rfl) hp h h2 h3
  clear hQ
  rw [split30]
  refine wp_seq (code_sound (C := C) p0 _ (by rw [hn]; exact chk_p0) hR (rn_ok _ (fun _ _ _ h => h) (wa30_0 l (fun e σ H => e = .norm ∧ Has σ [(0, .c (.sl 8 (recs l)))] ∧ H = []) fun σ h => ⟨rfl, h, rfl⟩)) fun e ι1 S1 σ1 H1 a1 w1 hq h1 => ?_)
  obtain ⟨rfl, hs1, rfl⟩ := hq
  have h1 := R.weak h1 hs1
  refine wp_seq (code_sound (C := C) p1 _ (by rw [hn]; exact chk_p1) h1 (rn_ok _ (fun _ _ _ h => h) (wa30_1 l (fun e σ H => (e = .ret ∧ 4096 < l.length ∧ Has σ [(2, .c (.int .i64 0)), (3, .c (.int .i64 3))]) ∨ (e = .norm ∧ ¬ 4096 < l.length ∧ Has σ [(0, .c (.sl 8 (recs l)))] ∧ H = [])) (fun h4 σ H h => .inl ⟨rfl, h4, h⟩) fun h4 σ h => .inr ⟨rfl, h4, h, rfl⟩)) fun e ι2 S2 σ2 H2 a2 w2 hq h2 => ?_)
  rcases hq with ⟨rfl, h4, hs2⟩ | ⟨rfl, h4, hs2, rfl⟩
  · exact fin (p := (0, 3)) (by unfold checkP; rw [if_pos h4]) h2 hs2.1 hs2.2.1
  have h2 := R.weak h2 hs2
  refine wp_seq (code_sound (C := C) p2 _ (by rw [hn]; exact chk_p2) h2 (rn_ok _ (fun _ _ _ h => h) (wa30_2 l hto (by omega) (fun e σ H => (e = .ret ∧ ∃ i e, rightsP l 0 = some (i, e) ∧ Has σ [(2, .c (.int .i64 i)), (3, .c (.int .i64 e))]) ∨ (e = .norm ∧ rightsP l 0 = none ∧ Has σ [(0, .c (.sl 8 (recs l)))] ∧ H = [])) (fun i e h4 σ H h => .inl ⟨rfl, i, e, h4, h⟩) fun h4 σ h => .inr ⟨rfl, h4, h, rfl⟩)) fun e ι3 S3 σ3 H3 a3 w3 hq h3 => ?_)
  rcases hq with ⟨rfl, i, er, h5, hs3⟩ | ⟨rfl, h5, hs3, rfl⟩
  · exact fin (p := (i, er)) (by unfold checkP; rw [if_neg h4, h5]) h3 hs3.1 hs3.2.1
  have h3 := R.weak h3 hs3
  have hright := rightsP_none l 0 h5
  have ec : checkP l = match twiceP [] l 0 with | some i => (i, 62) | none => (0, 0) := by unfold checkP; rw [if_neg h4, h5]; rfl
  refine wp_seq (reg10 hn h3 fun m a4 w4 g L h6 F6 => ?_)
  refine wp_seq (wp_seq (code_sound (C := C.now w4 ι3 S3 []) p11 _ (by show chkC _ C.n _ _ = true; rw [hn]; exact chk_p11) h6.rebase (rn_ok _ (fun _ _ _ h => h) (wa30_11 l (.map (some m)) (fun e σ H => e = .norm ∧ Has σ (s30 l (.map (some m)) 0) ∧ H = []) fun σ h => ⟨rfl, h, rfl⟩)) fun e ι7 S7 σ7 H7 a7 w7 hq h7 => ?_))
  obtain ⟨rfl, hs7, rfl⟩ := hq
  have F7 := F6.step h6.hr h7
  have h7 := R.weak (R.unbase h6.base h7 no_ids0) hs7
  refine wp_block (LoopFrom.loop ?_)
  have main : ∀ (k i : Nat) (ι : Nat → Loc) (S : Nat → Prop) (a : Act) (w : World) (g : Value → Value) (L : Int → Loc), l.length - i < k → i ≤ l.length → twiceP (l.take i) (l.drop i) i = twiceP [] l 0 → R C ι S (s30 l (.map (some m)) i) [] a w → Fams C ι S [] w (l.take i) m none g L →
      LoopFrom Try.prog (loopC (blkC (seqB (seqA (seqB (seqB (seqB (seqB (codeOf Try.f30)))))))))
        (Exit.inBlock 2 (Exit.then (Code.wp Try.prog (seqB (seqB (seqB (seqB (seqB (codeOf Try.f30)))))) Q) Q)) a w := by
    intro k
    induction k with
    | zero => intro i _ _ _ _ _ _ h; omega
    | succ k ih =>
      intro i ι S a w g L hk hi htw hR hF
      refine LoopFrom.round ?_
      rw [split30b]
      refine wp_seq (code_sound (C := C.now w ι S []) p12 _ (by show chkC _ C.n _ _ = true; rw [hn]; exact chk_p12) hR.rebase (rn_ok _ (fun _ _ _ h => h) (wa30_12 l (.map (some m)) i (fun e σ H => e = .norm ∧ Has σ ((34, .c (.bool (decide ((i : Int) < l.length)))) :: s30 l (.map (some m)) i) ∧ H = []) fun σ h => ⟨rfl, h, rfl⟩)) fun e ι1 S1 σ1 H1 a1 w1 hq h1 => ?_)
      obtain ⟨rfl, hs1, rfl⟩ := hq
      have F1 := hF.step hR.hr h1
      have h1 := R.weak (R.unbase hR.base h1 no_ids0) hs1
      refine wp_seq (code_sound (C := C.now w1 ι1 S1 []) pc _ (by show chkC _ C.n _ _ = true; rw [hn]; exact chk_pc) h1.rebase (rn_ok _ (fun _ _ _ h => h) (wa30_c l (.map (some m)) i (fun e σ H => (e = .norm ∧ i < l.length ∧ Has σ (s30 l (.map (some m)) i) ∧ H = []) ∨ (e = .exit 2 ∧ l.length ≤ i ∧ Has σ (s30 l (.map (some m)) i) ∧ H = [])) (fun hi σ h => .inl ⟨rfl, hi, h, rfl⟩) fun hi σ h => .inr ⟨rfl, hi, h, rfl⟩)) fun e ι2 S2 σ2 H2 a2 w2 hq h2 => ?_)
      rcases hq with ⟨rfl, hlt, hs2, rfl⟩ | ⟨rfl, hge, hs2, rfl⟩
      rotate_left
      · have h2 := R.weak (l := []) (R.unbase h1.base h2 no_ids0) trivial
        show Code.wp Try.prog (seqB (seqB (seqB (seqB (seqB (codeOf Try.f30)))))) Q a2 w2
        refine code_sound (C := C) pe _ (by rw [hn]; exact chk_pe) h2 (rn_ok _ (fun _ _ _ h => h) (wa30_e (fun e σ H => e = .ret ∧ Has σ [(2, .c (.int .i64 0)), (3, .c (.int .i64 0))]) fun σ h => ⟨rfl, h⟩)) fun e ι3 S3 σ3 H3 a3 w3 hq h3 => ?_
        obtain ⟨rfl, hs3⟩ := hq
        refine fin (p := (0, 0)) ?_ h3 hs3.1 hs3.2.1
        have : i = l.length := by omega
        rw [this, List.drop_length, twiceP] at htw
        rw [ec, ← htw]
      have F2 := F1.step h1.hr h2
      have h2 := R.weak (R.unbase h1.base h2 no_ids0) hs2
      obtain ⟨r, er, hm, hd⟩ := recs_at hlt
      have etake : l.take (i + 1) = l.take i ++ [r] := by
        rw [List.take_add_one, List.getElem?_eq_getElem hlt]
        have h2 : l.drop i = l[i] :: l.drop (i + 1) := List.drop_eq_getElem_cons hlt
        rw [h2] at hd
        injection hd with hd1 hd2
        rw [hd1]; rfl
      rw [hd, twiceP] at htw
      have hsub : ∀ o ∈ fam (l.take i) (famK r.kind), o ∈ l := fun o ho => List.mem_of_mem_take (List.mem_filter.1 ho).1
      have hfl : (fam (l.take i) (famK r.kind)).length ≤ 4096 := by
        have h1 := List.length_filter_le (fun o : Rec => decide (famK o.kind = famK r.kind)) (l.take i)
        have h2 : (l.take i).length ≤ l.length := by rw [List.length_take]; omega
        unfold fam; omega
      refine wp_seq (wp_block (wp_seq (code_sound (C := C.now w2 ι2 S2 []) p13 _ (by show chkC _ C.n _ _ = true; rw [hn]; exact chk_p13) h2.rebase (rn_ok _ (fun _ _ _ h => h) (wa30_13 l (.map (some m)) i r hlt er (fun e σ H => e = .norm ∧ Has σ ((8, .c (.int .i64 i)) :: (9, .ref 768 0) :: s30 l (.map (some m)) i) ∧ H = [(768, robj r)]) fun σ h => ⟨rfl, h, rfl⟩)) fun e ι3 S3 σ3 H3 a3 w3 hq h3 => ?_)))
      obtain ⟨rfl, hs3, rfl⟩ := hq
      have F3 := F2.step h2.hr h3
      have h3 := R.weak (R.unbase h2.base h3 no_ids) hs3
      refine wp_seq (code_sound (C := C.now w3 ι3 S3 [(768, robj r)]) p14 _ (by show chkC _ C.n _ _ = true; rw [hn]; exact chk_p14) h3.rebase (rn_ok _ (fun _ _ _ h => h) (wa30_14 l (.map (some m)) i r (fun e σ H => e = .norm ∧ Has σ (s30a l (.map (some m)) i (famK r.kind)) ∧ H = [(768, robj r)]) fun σ h => ⟨rfl, h, rfl⟩)) fun e ι4 S4 σ4 H4 a4 w4 hq h4 => ?_)
      obtain ⟨rfl, hs4, rfl⟩ := hq
      have F4 := F3.step h3.hr h4
      have h4 := R.weak (R.unbase h3.base h4 no_ids) hs4
      refine wp_seq (wp_seq (reg15 x15_l (by rw [hn]; exact x15_a) (by rw [hn]; exact x15_b) x15_2.1 x15_2.2.1 x15_2.2.2 (by rw [hn, n30]; decide) h4 F4 fun w5 ι5 S5 ι6 S6 a6 w6 e5 hr5 F5 b5 h6 => ?_))
      refine code_sound (C := C.now w5 ι5 S5 (h30b r (fam (l.take i) (famK r.kind)))) p4 _ (by show chkC _ C.n _ _ = true; rw [hn]; exact chk_p4) h6 (rn_ok _ (fun _ _ _ h => h) (wa30_4 l (.map (some m)) i r (fam (l.take i) (famK r.kind)) hfl (hl r hm) (hright r hm) (fun o ho => ⟨hl o (hsub o ho), hright o (hsub o ho)⟩)
        (fun e σ H => (e = .ret ∧ (fam (l.take i) (famK r.kind)).any (fun o => clashP (famK r.kind) o r) = true ∧ Has σ [(2, .c (.int .i64 i)), (3, .c (.int .i64 62))]) ∨ (e = .norm ∧ (fam (l.take i) (famK r.kind)).any (fun o => clashP (famK r.kind) o r) = false ∧ Has σ (s30b l (.map (some m)) i (famK r.kind) (fam (l.take i) (famK r.kind))) ∧ H = [(3000640, .row 8 (recs (fam (l.take i) (famK r.kind)))), (768, robj r)]))
        (fun ha σ H h => .inl ⟨rfl, ha, h⟩) fun ha σ h => .inr ⟨rfl, ha, h, rfl⟩)) fun e ι7 S7 σ7 H7 a7 w7 hq h7 => ?_
      rcases hq with ⟨rfl, ha, hs7⟩ | ⟨rfl, ha, hs7, rfl⟩
      · have h7 := R.drop (l := [(2, .int .i64 i), (3, .int .i64 62)]) h7 hs7
        have h7 := R.unbase b5 h7 no_ids0
        show Q .ret a7 w7
        refine fin (p := (i, 62)) ?_ h7 rfl rfl
        rw [if_pos ha] at htw
        rw [ec, ← htw]
      rw [if_neg (by rw [ha]; simp)] at htw
      have h7 := R.weak h7 hs7
      refine reg21 hO rfl x21_l (by rw [hn]; exact x21_a) (by rw [hn]; exact x21_b) x21_4.1 x21_4.2.1 x21_4.2.2 (by rw [hn, n30]; decide) x21_8.1 x21_8.2.1 x21_8.2.2 hfl e5 hr5 F5 b5 h7 fun ι8 S8 a8 w8 g8 L8 h8 F8 => ?_
      refine code_sound (C := C.now w8 ι8 S8 []) p22 _ (by show chkC _ C.n _ _ = true; rw [hn]; exact chk_p22) h8.rebase (rn_ok _ (fun _ _ _ h => h) (wa30_22 l (.map (some m)) i hlt (by omega) (fun e σ H => e = .norm ∧ Has σ (s30 l (.map (some m)) (i + 1)) ∧ H = []) fun σ h => ⟨rfl, h, rfl⟩)) fun e ι9 S9 σ9 H9 a9 w9 hq h9 => ?_
      obtain ⟨rfl, hs9, rfl⟩ := hq
      have F9 := F8.step h8.hr h9
      have h9 := R.weak (R.unbase h8.base h9 no_ids0) hs9
      rw [← etake] at F9 htw
      exact ih (i + 1) ι9 S9 a9 w9 g8 L8 (by omega) hlt htw h9 F9
  exact main _ 0 ι7 S7 a7 w7 g L (Nat.lt_succ_self _) (Nat.zero_le _) rfl h7 F7
end Go.Proofs.Ytcpdnpaedkcebaa.V
