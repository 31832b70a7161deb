/- Contracts by hand: table.Check as a whole. -/
import Derived.Test.YtcpdnpaedkcebaaXj
namespace Go.Proofs.Ytcpdnpaedkcebaa.V
open Go Go.RowKit
set_option linter.unusedVariables false
set_option linter.unusedSimpArgs false
set_option maxRecDepth 100000
def isI (k : Value) : Prop := ∃ n, k = .int .i64 n
/-- The map of the families, but for x's row: each family's row lies in a block that is not seen. -/
structure Fams (C : Ctx) (ι : Nat → Loc) (S : Nat → Prop) (H : LH) (w : World) (l : List Rec) (m : Nat) (x : Option Int) (g : Value → Value) (L : Int → Loc) : Prop where
  mp : MapAt w m isI (.slice none 0 0) g
  hm : Hid ι S H w m
  hC : C.w0.heap.size ≤ m
  row : ∀ f, x ≠ some f → RowR (L f) S w 8 (recs (fam l f))
  sl : ∀ f, SliceAt (L f) 8 0 (fam l f).length (g (.int .i64 f))
  hid : ∀ f, x ≠ some f → (L f).isnil = false → Hid ι S H w (L f).block ∧ C.w0.heap.size ≤ (L f).block ∧ (L f).block ≠ m
  inj : ∀ f f', (L f).isnil = false → (L f').isnil = false → (L f).block = (L f').block → f = f'
variable {C : Ctx} {ι ι' : Nat → Loc} {S S' : Nat → Prop} {σ σ' : Slots} {H H' : LH} {a a' : Act} {w w' : World} {l : List Rec} {m : Nat} {x : Option Int} {g : Value → Value} {L : Int → Loc}
theorem Fams.step (h : Fams C ι S H w l m x g L) {D : Ctx} (hr : HR ι S H w) (h' : R (D.now w ι S H) ι' S' σ' H' a' w') : Fams C ι' S' H' w' l m x g L := by
  have hb : ∀ b, Hid ι S H w b → Hid ι' S' H' w' b ∧ w'.heap[b]? = w.heap[b]? := fun b hb => hb.step h'
  refine ⟨h.mp.same (hb m h.hm).2, (hb m h.hm).1, h.hC, fun f hf => (h.row f hf).mono (fun b o u hs hu => ⟨h'.sub b hs, ?_⟩) (fun hn => (hb _ (h.hid f hf hn).1).2), h.sl, fun f hf hn => ⟨(hb _ (h.hid f hf hn).1).1, (h.hid f hf hn).2⟩, h.inj⟩
  rw [cell_block (w := w) (h'.fr.block b (hr.slt b hs) (fun ⟨id, ho, e⟩ => hr.disj id ho (e ▸ hs)))]
  exact hu
theorem Hid.nil {b : Nat} (h : Hid ι S H w b) : Hid ι' S [] w b := ⟨h.1, h.2.1, fun ⟨id, ho, _⟩ => by unfold Owned at ho; simp [LH.get] at ho⟩
theorem Fams.nil (h : Fams C ι S H w l m x g L) : Fams C ι S [] w l m x g L :=
  ⟨h.mp, h.hm.nil, h.hC, h.row, h.sl, fun f hf hn => ⟨(h.hid f hf hn).1.nil, (h.hid f hf hn).2⟩, h.inj⟩
theorem Fams.adopt (h : Fams C ι S H w l m none g L) {id : Nat} (f : Int) (hn : LH.get H id = none) :
    Fams C (updL ι id (L f)) S (LH.set H id (.row 8 (recs (fam l f)))) w l m (some f) g L := by
  have hb : ∀ b, Hid ι S H w b → ((L f).isnil = false → (L f).block ≠ b) → Hid (updL ι id (L f)) S (LH.set H id (.row 8 (recs (fam l f)))) w b := fun b hb hne =>
    ⟨hb.1, hb.2.1, fun ho => (OwnB.adopt ho).elim hb.2.2 fun ⟨e1, e2⟩ => hne e1 e2⟩
  refine ⟨h.mp, hb m h.hm fun hn => (h.hid f (by simp) hn).2.2, h.hC, fun f' hf => h.row f' (by simp), h.sl, fun f' hf hn' => ⟨hb _ (h.hid f' (by simp) hn').1 fun hn => fun e => hf (by rw [h.inj f f' hn hn' e]), (h.hid f' (by simp) hn').2⟩, h.inj⟩
theorem fam_snoc (l : List Rec) (r : Rec) (f : Int) : fam (l ++ [r]) f = if famK r.kind = f then fam l f ++ [r] else fam l f := by
  unfold fam
  rw [List.filter_append]
  by_cases h : famK r.kind = f
  · rw [if_pos h]; simp [h]
  · rw [if_neg h]; simp [h]
theorem avr_raw {v : Value} {u : Value} (hv : AVR ι H S w (.c (.raw v)) u) : u = v := by
  cases avr_c hv; rfl
theorem slot_raw {t : Nat} {v : Value} (h : R C ι S σ H a w) (hs : Slots.get σ t = .c (.raw v)) : a.tmps.getD t Go.undef = v := by
  have := h.sl t
  rw [hs] at this
  exact avr_raw this
theorem slot_i64 {t : Nat} {n : Int} (h : R C ι S σ H a w) (hs : Slots.get σ t = .c (.int .i64 n)) : a.tmps.getD t Go.undef = .int .i64 n := by
  have := h.sl t
  rw [hs] at this
  exact avr_int this
def q15a : List IOp := [⟨some 41, 0, none, .mv (.t 7)⟩, ⟨some 42, 0, none, .mv (.t 10)⟩]
def q15b : List IOp := [⟨some 44, 0, none, .len false (.t 43)⟩, ⟨some 45, 0, none, .mv (.c (.int .i64 0))⟩]
def q21a : List IOp := [⟨some 90, 0, none, .mv (.t 7)⟩, ⟨some 91, 0, none, .mv (.t 10)⟩, ⟨some 92, 0, none, .mv (.t 7)⟩, ⟨some 93, 0, none, .mv (.t 10)⟩]
def q21b : List IOp := [⟨some 95, 0, none, .ld (.t 9) (some 8)⟩, ⟨some 96, 40, none, .bsl 8 [.t 95]⟩, ⟨some 97, 41, none, .app (.t 94) (.t 96) 8 96 false⟩]
def s30a (l : List Rec) (v : Value) (i : Nat) (f : Int) : Slots := (10, .c (.int .i64 f)) :: (8, .c (.int .i64 i)) :: (9, .ref 768 0) :: s30 l v i
theorem wa15a (l : List Rec) (v : Value) (i : Nat) (f : Int) (r : Rec) (Q : Ex → Slots → LH → Prop) (hQ : ∀ σ, Has σ ((42, .c (.int .i64 f)) :: (41, .c (.raw v)) :: s30a l v i f) → Q .norm σ [(768, robj r)]) : rnC Try.prog (.reg q15a) Q (s30a l v i f) [(768, robj r)] := by
  unfold q15a s30a s30 robj
  simp only [go_sem, ↓reduceIte, Nat.reduceEqDiff, Nat.reduceMul, Nat.reduceAdd, Nat.reduceDiv, Nat.reduceSub, Nat.reduceLT, Nat.reduceLeDiff, Int.reduceLE, Int.reduceLT, Int.reduceToNat, Int.reduceEq]
  exact hQ _ ⟨rfl, rfl, rfl, rfl, rfl, rfl, rfl, rfl, rfl, trivial⟩
theorem wa15b (l : List Rec) (v : Value) (i : Nat) (f : Int) (r : Rec) (os : List Rec) (Q : Ex → Slots → LH → Prop) (hQ : ∀ σ, Has σ ((45, .c (.int .i64 0)) :: (44, .c (.int .i64 os.length)) :: s30b l v i f os) → Q .norm σ (h30b r os)) : rnC Try.prog (.reg q15b) Q (s30b l v i f os) (h30b r os) := by
  unfold q15b s30b s30 h30b robj
  simp only [go_sem, ↓reduceIte, Nat.reduceEqDiff, Nat.reduceMul, Nat.reduceAdd, Nat.reduceDiv, Nat.reduceSub, Nat.reduceLT, Nat.reduceLeDiff, Int.reduceLE, Int.reduceLT, Int.reduceToNat, Int.reduceEq]
  exact hQ _ ⟨rfl, rfl, rfl, rfl, rfl, rfl, rfl, rfl, rfl, rfl, trivial⟩
theorem wa21a (l : List Rec) (v : Value) (i : Nat) (f : Int) (r : Rec) (os : List Rec) (Q : Ex → Slots → LH → Prop) (hQ : ∀ σ, Has σ ((93, .c (.int .i64 f)) :: (92, .c (.raw v)) :: (91, .c (.int .i64 f)) :: (90, .c (.raw v)) :: s30b l v i f os) → Q .norm σ [(3000640, .row 8 (recs os)), (768, robj r)]) :
    rnC Try.prog (.reg q21a) Q (s30b l v i f os) [(3000640, .row 8 (recs os)), (768, robj r)] := by
  unfold q21a s30b s30 robj
  simp only [go_sem, ↓reduceIte, Nat.reduceEqDiff, Nat.reduceMul, Nat.reduceAdd, Nat.reduceDiv, Nat.reduceSub, Nat.reduceLT, Nat.reduceLeDiff, Int.reduceLE, Int.reduceLT, Int.reduceToNat, Int.reduceEq]
  exact hQ _ ⟨rfl, rfl, rfl, rfl, rfl, rfl, rfl, rfl, rfl, rfl, rfl, rfl, trivial⟩
theorem wa21b (l : List Rec) (v : Value) (i : Nat) (f : Int) (r : Rec) (os : List Rec) (hos : os.length ≤ 4096) (Q : Ex → Slots → LH → Prop) (hQ : ∀ σ H, Has σ ((97, .osl 2624 0 (os.length + 1)) :: (91, .c (.int .i64 f)) :: (90, .c (.raw v)) :: s30 l v i) → LH.get H 2624 = some (.row 8 (recs (os ++ [r]))) → (∀ id ob, argBase ≤ id → LH.get H id = some ob → ¬ ob.own) → Q .norm σ H) :
    rnC Try.prog (.reg q21b) Q ((94, .osl 3000640 0 os.length) :: (91, .c (.int .i64 f)) :: (90, .c (.raw v)) :: (9, .ref 768 0) :: s30 l v i) [(3000640, .row 8 (recs os)), (768, robj r)] := by
  unfold q21b s30 robj
  simp only [go_sem, ↓reduceIte, Nat.reduceEqDiff, Nat.reduceMul, Nat.reduceAdd, Nat.reduceDiv, Nat.reduceSub, Nat.reduceLT, Nat.reduceLeDiff, Int.reduceLE, Int.reduceLT, Int.reduceToNat, Int.reduceEq]
  have ht : List.take os.length (recs os) = recs os := by rw [← recs_len os, List.take_length]
  refine ⟨by omega, hQ _ _ ⟨rfl, rfl, rfl, rfl, rfl, rfl, rfl, trivial⟩ ?_ fun id ob hge hg ho => ?_⟩
  · show some (LObj.row 8 (List.take os.length (recs os) ++ [r.cv])) = _
    rw [ht]; simp [recs]
  · unfold argBase at hge
    simp only [LH.get] at hg
    rw [if_neg (show ¬768 = id by omega), if_neg (show ¬2560 = id by omega), if_neg (show ¬2624 = id by omega)] at hg
    split at hg
    · injection hg with hg; subst hg; exact ho
    · cases hg
theorem zero22 (w : World) : (zeroValue 22).run Try.prog w = .ok (.slice none 0 0) w := by kernel_rfl
theorem map87 : Try.prog.underlying 87 = some (.map 3 22) := by kernel_rfl
theorem keys87 : Keys Try.prog 3 isI := keys_int (by kernel_rfl)
theorem no_ids {r : Rec} : ∀ id ob, argBase ≤ id → LH.get [(768, robj r)] id = some ob → ¬ ob.own := fun id ob hge hg => by
  unfold argBase at hge
  simp only [LH.get, if_neg (show ¬768 = id by omega)] at hg
  cases hg
theorem no_ids0 : ∀ id ob, argBase ≤ id → LH.get [] id = some ob → ¬ ob.own := fun id ob hge hg => by cases hg
theorem reg15 {ops : Array Oper} {l1 l2 : List Oper} {o : Oper} {Q : Exit → Act → World → Prop} {f : Int} {r : Rec} {i : Nat} {l' : List Rec}
    (hops : ops.toList = l1 ++ (o :: l2)) (c1 : chkOps Try.prog C.n ops l1 q15a = true) (c2 : chkOps Try.prog C.n ops l2 q15b = true) (ho : o.op = .lookup 87 (.tmp 41) (.tmp 42) false) (hd : o.dst = some 43) (hg : o.guard = none) (hn : 43 < C.n)
    (hR : R C ι S (s30a l (.map (some m)) i f) [(768, robj r)] a w) (hF : Fams C ι S [(768, robj r)] w l' m none g L)
    (hK : ∀ w1 ι2 S1 ι' S' a' w', ι2 3000640 = L f → HR ι2 S1 (h30b r (fam l' f)) w1 → Fams C ι2 S1 (h30b r (fam l' f)) w1 l' m (some f) g L → Base C ι2 S1 (h30b r (fam l' f)) w1 →
      R (C.now w1 ι2 S1 (h30b r (fam l' f))) ι' S' ((45, .c (.int .i64 0)) :: (44, .c (.int .i64 (fam l' f).length)) :: s30b l (.map (some m)) i f (fam l' f)) (h30b r (fam l' f)) a' w' → Q .normal a' w') :
    (Code.region 15 ops false).wp Try.prog Q a w := by
  refine wp_region_list ?_
  rw [hops]
  refine opsP_sound (C := C.now w ι S [(768, robj r)]) l1 q15a c1 hR.rebase (rn_ok (.reg q15a) (fun _ _ _ h => h) (wa15a l _ i f r (fun e σ H => e = .norm ∧ Has σ ((42, .c (.int .i64 f)) :: (41, .c (.raw (.map (some m)))) :: s30a l (.map (some m)) i f) ∧ H = [(768, robj r)]) fun σ h => ⟨rfl, h, rfl⟩)) fun ι3 S3 σ3 H3 a3 w3 hq h3 => ?_
  obtain ⟨_, hs, rfl⟩ := hq
  have F3 := hF.step hR.hr h3
  have h3 := R.unbase hR.base h3 no_ids
  refine op_val hg (ex_look ho (by rw [slot_raw h3 hs.2.1, slot_i64 h3 hs.1]; exact F3.mp.look map87 keys87 (zero22 w3) ⟨f, rfl⟩)) ?_
  rw [hd]
  have hnone : LH.get [(768, robj r)] 3000640 = none := rfl
  have h4 := h3.adopt (id := 3000640) (e := 8) (xs := recs (fam l' f)) (L := L f) hnone (F3.row f (by simp)) (fun hn => (F3.hid f (by simp) hn).1)
  have F4 := F3.adopt f hnone
  have b4 : Base C (updL ι3 3000640 (L f)) S3 (h30b r (fam l' f)) w3 := ⟨h3.fr, h3.sub, h3.sup, fun b hb => (OwnB.adopt hb).elim (fun hb => h3.base.own b hb) fun ⟨e1, e2⟩ => .inr (e2 ▸ (F3.hid f (by simp) e1).2.1)⟩
  have h5 := h4.put (d := some 43) (av := .osl 3000640 0 (fam l' f).length) (v := g (.int .i64 f)) (.osl _ _ _ _ (by
    show OslOK (updL ι3 3000640 (L f)) (h30b r (fam l' f)) 3000640 0 _ _
    unfold OslOK
    show _ ∧ _
    rw [updL_same]
    exact ⟨by rw [recs_len]; omega, F3.sl f⟩)) (fun k hk => by injection hk with hk; subst hk; exact hn)
  have h6 := R.weak (l := s30b l (.map (some m)) i f (fam l' f)) h5 ⟨rfl, hs.2.2.1, hs.2.2.2.1, hs.2.2.2.2.1, hs.2.2.2.2.2.1, hs.2.2.2.2.2.2.1, hs.2.2.2.2.2.2.2.1, hs.2.2.2.2.2.2.2.2.1, trivial⟩
  refine ops_sound (C := C.now w3 (updL ι3 3000640 (L f)) S3 (h30b r (fam l' f))) l2 q15b c2 h6 (rn_ok (.reg q15b) (fun _ _ _ h => h) (wa15b l _ i f r (fam l' f) (fun e σ H => e = .norm ∧ Has σ ((45, .c (.int .i64 0)) :: (44, .c (.int .i64 (fam l' f).length)) :: s30b l (.map (some m)) i f (fam l' f)) ∧ H = h30b r (fam l' f)) fun σ h => ⟨rfl, h, rfl⟩)) fun ι7 S7 σ7 H7 a7 w7 hq h7 => ?_
  obtain ⟨_, hs7, rfl⟩ := hq
  exact hK w3 _ S3 ι7 S7 a7 w7 (updL_same _ _ _) h4.hr F4 b4 (h7.weak hs7)
theorem reg21 {ops : Array Oper} {l1 l2 : List Oper} {o o2 : Oper} {Q : Exit → Act → World → Prop} {r : Rec} {i : Nat} {l' : List Rec} {w1 : World} {ι2 : Nat → Loc} {S1 : Nat → Prop} {f : Int} (hO : ∀ b, ¬ C.O b) (hf : f = famK r.kind)
    (hops : ops.toList = l1 ++ (o :: (l2 ++ [o2]))) (c1 : chkOps Try.prog C.n ops l1 q21a = true) (c2 : chkOps Try.prog C.n ops l2 q21b = true) (ho : o.op = .lookup 87 (.tmp 92) (.tmp 93) false) (hd : o.dst = some 94) (hg : o.guard = none) (hn : 94 < C.n)
    (ho2 : o2.op = .mapUpdate 87 (.tmp 90) (.tmp 91) (.tmp 97)) (hd2 : o2.dst = none) (hg2 : o2.guard = none) (hlen : (fam l' f).length ≤ 4096)
    (e2 : ι2 3000640 = L f) (hr1 : HR ι2 S1 (h30b r (fam l' f)) w1) (F1 : Fams C ι2 S1 (h30b r (fam l' f)) w1 l' m (some f) g L) (b1 : Base C ι2 S1 (h30b r (fam l' f)) w1)
    (hR : R (C.now w1 ι2 S1 (h30b r (fam l' f))) ι S (s30b l (.map (some m)) i f (fam l' f)) [(3000640, .row 8 (recs (fam l' f))), (768, robj r)] a w)
    (hK : ∀ ι' S' a' w' g' L', R C ι' S' (s30 l (.map (some m)) i) [] a' w' → Fams C ι' S' [] w' (l' ++ [r]) m none g' L' → Q .normal a' w') :
    (Code.region 21 ops false).wp Try.prog Q a w := by
  refine wp_region_list ?_
  rw [hops]
  refine opsP_sound (C := C.now w1 ι2 S1 (h30b r (fam l' f))) l1 q21a c1 hR (rn_ok (.reg q21a) (fun _ _ _ h => h) (wa21a l _ i f r (fam l' f) (fun e σ H => e = .norm ∧ Has σ ((93, .c (.int .i64 f)) :: (92, .c (.raw (.map (some m)))) :: (91, .c (.int .i64 f)) :: (90, .c (.raw (.map (some m)))) :: s30b l (.map (some m)) i f (fam l' f)) ∧ H = [(3000640, .row 8 (recs (fam l' f))), (768, robj r)]) fun σ h => ⟨rfl, h, rfl⟩)) fun ι3 S3 σ3 H3 a3 w3 hq h3 => ?_
  obtain ⟨_, hs, rfl⟩ := hq
  have F3 := F1.step hr1 h3
  have hs93 := hs.1
  have hs92 := hs.2.1
  refine op_val hg (ex_look ho (by rw [slot_raw h3 hs92, slot_i64 h3 hs93]; exact F3.mp.look map87 keys87 (zero22 w3) ⟨f, rfl⟩)) ?_
  rw [hd]
  have hg3 : LH.get [(3000640, LObj.row 8 (recs (fam l' f))), (768, robj r)] 3000640 = some (.row 8 (recs (fam l' f))) := rfl
  have e3 : ι3 3000640 = L f := (h3.loc 3000640 _ hg3 trivial (by decide)).trans e2
  have h5 := h3.put (d := some 94) (av := .osl 3000640 0 (fam l' f).length) (v := g (.int .i64 f)) (.osl _ _ _ _ (by
    unfold OslOK
    rw [hg3]
    show _ ∧ _
    rw [e3]
    exact ⟨by rw [recs_len]; omega, F3.sl f⟩)) (fun k hk => by injection hk with hk; subst hk; exact hn)
  obtain ⟨_, _, s91, s90, s43, s10, s8, s9, s7, s31, s32, s33, _⟩ := hs
  have h6 := R.weak (l := (94, .osl 3000640 0 (fam l' f).length) :: (91, .c (.int .i64 f)) :: (90, .c (.raw (.map (some m)))) :: (9, .ref 768 0) :: s30 l (.map (some m)) i) h5 ⟨rfl, s91, s90, s9, s7, s31, s32, s33, trivial⟩
  refine opsP_sound (C := C.now w1 ι2 S1 (h30b r (fam l' f))) l2 q21b c2 h6 (rn_ok (.reg q21b) (fun _ _ _ h => h) (wa21b l _ i f r (fam l' f) hlen (fun e σ H => e = .norm ∧ Has σ ((97, .osl 2624 0 ((fam l' f).length + 1)) :: (91, .c (.int .i64 f)) :: (90, .c (.raw (.map (some m)))) :: s30 l (.map (some m)) i) ∧ LH.get H 2624 = some (.row 8 (recs (fam l' f ++ [r]))) ∧ (∀ id ob, argBase ≤ id → LH.get H id = some ob → ¬ ob.own)) fun σ H h h' h'' => ⟨rfl, h, h', h''⟩)) fun ι4 S4 σ4 H4 a4 w4 hq h4 => ?_
  obtain ⟨_, hs4, hg4, hid4⟩ := hq
  have F4 := F1.step hr1 h4
  have h4 := R.unbase b1 h4 hid4
  obtain ⟨s97, s91, s90, hs30⟩ := hs4
  have a97 := h4.sl 97
  rw [s97] at a97
  have sl97 := (oslOK_row (avr_osl a97) (.inl hg4)).2
  generalize hv97 : a4.tmps.getD 97 Go.undef = v97 at a97 sl97
  obtain ⟨X, hX1, hX2⟩ := F4.mp.put map87 keys87 (k := .int .i64 f) ⟨f, rfl⟩ v97
  refine op_skip hg2 hd2 (ex_put ho2 (by
    rw [slot_raw h4 s90, slot_i64 h4 s91]
    show (Instr.mapUpdate 87 _ _ (a4.tmps.getD 97 Go.undef)).run _ _ = _
    rw [hv97]; exact hX1)) ?_
  have h7 := h4.hid F4.hm F4.hC X
  have h8 := R.drop (l := [(7, .raw (.map (some m))), (31, .sl 8 (recs l)), (32, .int .i64 l.length), (33, .int .i64 i)]) h7 hs30
  unfold wpList
  have ow : (ι4 2624).isnil = false → Owned ι4 H4 2624 := fun hn => by unfold Owned; rw [hg4]; exact hn
  refine hK ι4 S4 a4 _ _ (fun f' => if f' = f then ι4 2624 else L f') h8 ⟨hX2, (F4.hm.hid X).nil, F4.hC, fun f' _ => ?_, fun f' => ?_, fun f' _ hn => ?_, fun f1 f2 hn1 hn2 he => ?_⟩
  · rw [fam_snoc]
    have kb : ∀ (b : Nat), b ≠ m → (w4.heap.setIfInBounds m X)[b]? = w4.heap[b]? := fun b hb => by rw [Array.getElem?_setIfInBounds_ne (Ne.symm hb)]
    have kS : ∀ (b o : Nat) (x : Value), S4 b → w4.cell? ⟨b, o, none⟩ = some x → S4 b ∧ ({ w4 with heap := w4.heap.setIfInBounds m X } : World).cell? ⟨b, o, none⟩ = some x := fun b o x hs hx =>
      ⟨hs, by rw [cell_block (w := w4) (show (w4.heap.setIfInBounds m X)[b]? = w4.heap[b]? from kb b (fun e => F4.hm.2.1 (e ▸ hs)))]; exact hx⟩
    by_cases hff : f' = f
    · simp only [hff, if_true, ← hf]
      exact (h4.hr.row _ _ _ hg4).mono kS fun hn => kb _ fun e => F4.hm.2.2 ⟨2624, ow hn, e⟩
    · rw [if_neg hff, if_neg (by rw [← hf]; exact Ne.symm hff)]
      exact (F4.row f' (by simpa using Ne.symm hff)).mono kS fun hn => kb _ (F4.hid f' (by simpa using Ne.symm hff) hn).2.2
  · rw [fam_snoc]
    by_cases hff : f' = f
    · simp only [hff, if_true, ← hf]
      rw [List.length_append]
      exact sl97
    · rw [if_neg hff, if_neg (by rw [← hf]; exact Ne.symm hff)]
      have : ¬ (Value.int .i64 f' = Value.int .i64 f) := fun h => by injection h with _ h; exact hff h
      rw [if_neg this]
      exact F4.sl f'
  · by_cases hff : f' = f
    · simp only [hff, if_true] at hn ⊢
      refine ⟨⟨?_, ?_, ?_⟩, ?_, ?_⟩
      · simpa using h4.hr.lt 2624 (ow hn)
      · exact h4.hr.disj 2624 (ow hn)
      · intro ⟨id, ho, _⟩; unfold Owned at ho; simp [LH.get] at ho
      · exact (h4.own 2624 (ow hn)).resolve_left (hO _)
      · exact fun e => F4.hm.2.2 ⟨2624, ow hn, e⟩
    · simp only [if_neg hff] at hn ⊢
      have := F4.hid f' (by simpa using Ne.symm hff) hn
      exact ⟨(this.1.hid X).nil, this.2⟩
  · by_cases h1 : f1 = f <;> by_cases h2 : f2 = f
    · rw [h1, h2]
    · simp only [h1, if_true, if_neg h2] at hn1 hn2 he
      exact absurd ⟨2624, ow hn1, he⟩ (F4.hid f2 (by simpa using Ne.symm h2) hn2).1.2.2
    · simp only [h2, if_true, if_neg h1] at hn1 hn2 he
      exact absurd ⟨2624, ow hn2, he.symm⟩ (F4.hid f1 (by simpa using Ne.symm h1) hn1).1.2.2
    · simp only [if_neg h1, if_neg h2] at hn1 hn2 he
      exact F4.inj f1 f2 hn1 hn2 he
end Go.Proofs.Ytcpdnpaedkcebaa.V
