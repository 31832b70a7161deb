/- A small calculus over the model, twelve: every operation; a step; a region in the order of the text. -/
import Derived.Test.YtcpdnpaedkcebaaVk
namespace Go.Proofs.Ytcpdnpaedkcebaa.V
open Go Go.RowKit
set_option linter.unusedVariables false
set_option linter.unusedSimpArgs false

def chkAs : List Operand → List (Opd × Mode) → Bool
  | [], [] => true
  | x :: xs, (y, _) :: ys => chkOpd x y && chkAs xs ys
  | _, _ => false

def optB {α : Type} (o : Option α) (k : α → Bool) : Bool :=
  match o with
  | some a => k a
  | none => false

/-- A call of a builtin with these operands and types. -/
def isB (op : Op) (b : Builtin) : Option (List Operand × List TypeId) :=
  match op with
  | .call c =>
    match c.callee with
    | .builtin b' => if b' == b then some (c.args.toList, c.argTypes.toList) else none
    | _ => none
  | _ => none

def chkOp (P : Program) (op : Op) (io : Ins) : Bool :=
  match io with
  | .mv y =>
    match op with
    | .move x => chkOpd x y
    | .assign x => chkOpd x y
    | _ => false
  | .pick a' b' c' =>
    match op with
    | .pick a b c => chkOpd a a' && chkOpd b b' && chkOpd c c'
    | _ => false
  | .bin bop' x' y' =>
    match op with
    | .binOp bop t x y _ => decide (bop = bop') && chkOpd x x' && chkOpd y y'
    | _ => false
  | .isnil x' neg =>
    match op with
    | .binOp bop t x y _ => decide (bop = if neg then .neq else .eql) && chkOpd x x' && chkOpd y (.c .nilsl) && uSlice P t (fun _ => true)
    | _ => false
  | .beq x' y' =>
    match op with
    | .binOp .eql t x y _ => chkOpd x x' && chkOpd y y' && isBool P t
    | _ => false
  | .bne x' y' =>
    match op with
    | .binOp .neq t x y _ => chkOpd x x' && chkOpd y y' && isBool P t
    | _ => false
  | .mks n z =>
    match op with
    | .makeSlice t l c => chkMks P t l c n z
    | _ => false
  | .not y =>
    match op with
    | .unOp .not _ x => chkOpd x y
    | _ => false
  | .cpl y =>
    match op with
    | .unOp .xor _ x => chkOpd x y
    | _ => false
  | .conv k y =>
    match op with
    | .convert s d x => chkOpd x y && (P.underlying s).isSome && isInt P d k
    | _ => false
  | .b2s y =>
    match op with
    | .convert s d x => chkOpd x y && isStr P d && uSlice P s (fun e => isInt P e .u8)
    | _ => false
  | .s2b y =>
    match op with
    | .convert s d x => chkOpd x y && (P.underlying s).isSome && uSlice P d (fun e => isInt P e .u8)
    | _ => false
  | .len b y =>
    match isB op .len with
    | some ([x], [t]) => chkOpd x y && (if b then isStr P t else uSlice P t fun _ => true)
    | _ => false
  | .mn x' y' =>
    match isB op .min with
    | some ([x, y], [_, _]) => chkOpd x x' && chkOpd y y'
    | _ => false
  | .mx x' y' =>
    match isB op .max with
    | some ([x, y], [_, _]) => chkOpd x x' && chkOpd y y'
    | _ => false
  | .app x' y' esz bytes str =>
    match isB op .append with
    | some ([x, y], [t, xt]) => chkOpd x x' && chkOpd y y' && chkApp P t xt esz bytes str
    | _ => false
  | .call f' ys =>
    match op with
    | .call c =>
      match c.callee with
      | .value f => chkOpd f f' && chkAs c.args.toList ys
      | _ => false
    | _ => false
  | .ext y j =>
    match op with
    | .extract x i => chkOpd x y && decide (i = j)
    | _ => false
  | .sidx x' i' =>
    match op with
    | .index t x i => chkOpd x x' && chkOpd i i' && isStr P t
    | _ => false
  | .aidx n x' i' =>
    match op with
    | .index t x i => chkOpd x x' && chkOpd i i' && (match P.underlying t with | some (.array m e) => decide (m = n) && uAgg P e == some false && szOf P e == some 1 | _ => false)
    | _ => false
  | .fa x' off =>
    match op with
    | .fieldAddr s x f => chkOpd x x' && uField P s f off
    | _ => false
  | .ia x' i' esz =>
    match op with
    | .indexAddr t x i => chkOpd x x' && chkOpd i i' && uSlice P t (fun e => szOf P e == some esz)
    | _ => false
  | .ld x' n =>
    match op with
    | .load t x => chkOpd x x' && chkLoad P t n
    | _ => false
  | .st x' y' n =>
    match op with
    | .store t x y => chkOpd x x' && chkOpd y y' && chkStore P t n
    | _ => false
  | .nck x' =>
    match op with
    | .nilCheck x => chkOpd x x'
    | _ => false
  | .alloc z =>
    match op with
    | .alloc t => chkAlloc P t z
    | _ => false
  | .box x' =>
    match op with
    | .box t x => chkOpd x x'
    | _ => false
  | .bld z ps' =>
    match op with
    | .build t ps => chkBld P t z ps.toList ps'
    | _ => false
  | .bsl esz ps' =>
    match op with
    | .buildSlice t len ps => chkBsl P t len esz ps.toList ps'
    | _ => false
  | .slc x' lo' hi' mx' esz =>
    match op with
    | .slice t x lo hi mx => chkOpd x x' && chkOptd lo lo' && chkOptd hi hi' && chkOptd mx mx' && (!mx.isSome || hi.isSome) && uSlice P t (fun e => szOf P e == some esz)
    | _ => false
  | .ssl x' lo' hi' =>
    match op with
    | .slice t x lo hi mx => !mx.isSome && chkOpd x x' && chkOptd lo lo' && chkOptd hi hi' && isStr P t
    | _ => false

section
variable {P : Program} {C : Ctx} {ι : Nat → Loc} {S : Nat → Prop} {σ : Slots} {H : LH} {a : Act} {w : World} {o : Oper} {K : AV → List (Nat × LObj) → Prop} {g : Prop} {u : Nat}

theorem uSlice_spec {t : TypeId} {k : TypeId → Bool} (h : uSlice P t k = true) : ∃ e, P.underlying t = some (.slice e) ∧ k e = true := by
  unfold uSlice at h
  split at h
  · rename_i e he; exact ⟨e, he, h⟩
  · cases h
theorem isInt_spec {t : TypeId} {k : IntKind} (h : isInt P t k = true) : P.underlying t = some (.int k) := by
  unfold isInt at h
  split at h
  · rename_i k' hk
    have : k = k' := by simpa using h
    rw [this]; exact hk
  · cases h
theorem isStr_spec {t : TypeId} (h : isStr P t = true) : P.underlying t = some .string := by
  unfold isStr at h
  split at h
  · rename_i hk; exact hk
  · cases h

theorem chkAs_spec (h : R C ι S σ H a w) : ∀ (xs : List Operand) (ys : List (Opd × Mode)), chkAs xs ys = true → xs.length = ys.length ∧
    ∀ q, q < ys.length → AVR ι H S w ((ys.map fun x => (val σ x.1, x.2)).getD q (.c .undef, .plain)).1 ((xs.map a.eval).getD q Go.undef)
  | [], [], _ => ⟨rfl, fun q hq => by simp at hq⟩
  | x :: xs, (y, md) :: ys, hc => by
    simp only [chkAs, Bool.and_eq_true] at hc
    obtain ⟨h1, h2⟩ := chkAs_spec h xs ys hc.2
    refine ⟨by simp [h1], fun q hq => ?_⟩
    cases q with
    | zero => exact ev h hc.1
    | succ q => exact h2 q (by simpa using hq)
  | [], _ :: _, h => by cases h
  | _ :: _, [], h => by cases h

theorem wp_call (h : R C ι S σ H a w) {fo : Operand} {fo' : Opd} {xs : Array Operand} {ts : Array TypeId} {ys : List (Opd × Mode)} (ho : o.op = .call ⟨.value fo, xs, ts⟩) (hfo : chkOpd fo fo' = true) (hx : chkAs xs.toList ys = true)
    (hw : opW P g σ H u (.call fo' ys) K) (hg : g) {N : Act → World → Prop} {Q : Exit → Act → World → Prop}
    (hN : ∀ av ws ι' S' w' v, K av ws → R C ι' S' σ (LH.sets H ws) a w' → AVR ι' (LH.sets H ws) S' w' av v → N (a.put o.dst v) w') : o.wp P a w N Q := by
  have hfv := ev h hfo
  simp only [opW] at hw
  split at hw
  case h_2 => exact hw.elim
  rename_i f e1
  rw [e1] at hfv
  have ef : a.eval fo = .func (.func f) #[] #[] := by
    have hq := avr_c hfv
    generalize a.eval fo = X at hq
    cases hq; rfl
  obtain ⟨hxl, hxv⟩ := chkAs_spec h _ _ hx
  obtain ⟨args, m, V, H', ⟨out, hcw, hlive, hsc, ⟨hfr, hlen, hrl, hbl⟩, hK⟩, hl, hal, hq, hV⟩ := argsW_spec h hg argBase _ (xs.toList.map a.eval) H 0 _ (by simpa using hxl) (by simpa using hxv) (fun i ob hi _ => hi) hw
  obtain ⟨hfn, hbo, hC⟩ := hcw hg
  have hlm : (ys.map fun x => (val σ x.1, x.2)).length = args.length := hal.symm
  rw [hlm] at hl hq
  rw [Nat.zero_add] at hl
  simp only [Nat.mul_zero, Nat.add_zero] at hl
  have hV' : ∀ i ∈ V, (∃ e xs, LH.get H i = some (.row e xs)) ∧ isLive H' i := fun i hi => ⟨hV i hi, hlive i hi⟩
  obtain ⟨hsm, hob⟩ := args_OB (by rfl) hl hq
  have hHR := lend_HR h.hr hl hob hV'
  have hAV := args_AVR (by rfl) hl hq (Hx := argsOb argBase args 0) (fun k ob hk => hk)
  have hcall := hC (lendL ι m) (Sv ι S V) w (xs.toList.map a.eval) (by rw [List.length_map, hxl, ← hlm, List.length_map]) hAV hHR
  -- the operation enters
  have hrun : (execOp a.eval o).run P w = .ok (.enter f (xs.toList.map a.eval).toArray) w := by
    unfold isFn at hfn
    split at hfn
    case h_2 => cases hfn
    rename_i fn hf
    simp only [Bool.and_eq_true, bne_iff_ne, ne_eq] at hfn
    obtain ⟨bd, hbd⟩ := Option.isSome_iff_exists.1 hfn.2
    have hnm : (fn.name == "runtime.NumGoroutine") = false := by simpa using hfn.1
    have hnone : fn.body.isNone = false := by rw [hbd]; rfl
    have hargs : (xs.map a.eval) = (xs.toList.map a.eval).toArray := by
      rw [← Array.toList_map, Array.toArray_toList]
    simp only [execOp, ho, resolve, ef, Deferred.ofValue, Sem.run_bind, Sem.run_pure, Result.andThen_ok, invoke, callFunc, Array.empty_append, Array.append_empty]
    simp only [program, Sem.run, Result.andThen_ok, hf, hnm, hnone, Bool.false_eq_true, if_false]
    rw [hargs]
    rfl
  unfold Oper.wp
  rw [hrun, Oper.upon_enter]
  refine hcall.mono fun e w' hp => ?_
  obtain ⟨v, ι', S', rfl, r1, r2, r3, r4, r5, r6, r7⟩ := hp
  obtain ⟨ι2, S2, hR2, hv2⟩ := import_R (u := u) h hl hlen hq hV' hbo hsc hfr hrl hbl r1 r2 r3 r4 r5 r6 r7
  exact hN _ _ _ _ _ _ hK hR2 hv2

/-- Behind a call that gave up: what was handed over is no longer ours, the rest is as it was. -/
theorem import_P (h : R C ι S σ H a w) {H' Ha : LH} {m : List (Nat × Option Nat)} {lo hi : Nat} (hl : Lend H H' m lo hi) (hob : OB H m Ha) {w' : World} (hfr : Fr (Handed (lendL ι m) Ha) w w') : R C ι S σ H' a w' := by
  have hnot : ∀ b, Handed (lendL ι m) Ha b → ∃ i, Owned ι H i ∧ (ι i).block = b ∧ LH.get H' i = some .dead := by
    rintro b ⟨id, hown, rfl⟩
    obtain ⟨i, hm, ho1, ho2⟩ := lend_owned hl hob hown
    exact ⟨i, ho1, by rw [ho2], (hl.moved _ _ hm).2⟩
  have hback : ∀ i, Owned ι H' i → Owned ι H i ∧ LH.get H' i = LH.get H i := fun i ho => by
    rcases hl.other i with e | ⟨_, e⟩
    · exact ⟨by unfold Owned at ho ⊢; rw [← e]; exact ho, e⟩
    · unfold Owned at ho; rw [e] at ho; exact ho.elim
  have hsame : ∀ i, Owned ι H i → LH.get H' i = LH.get H i → w'.heap[(ι i).block]? = w.heap[(ι i).block]? := fun i ho e => by
    refine hfr.block _ (h.hr.lt i ho) fun hh => ?_
    obtain ⟨j, hj1, hj2, hj3⟩ := hnot _ hh
    have : j = i := h.hr.inj j i hj1 ho hj2
    subst this
    rw [hj3] at e
    unfold Owned at ho
    rw [← e] at ho
    exact ho
  have hS : ∀ b, S b → w'.heap[b]? = w.heap[b]? := fun b hb => by
    refine hfr.block _ (h.hr.slt b hb) fun hh => ?_
    obtain ⟨j, hj1, hj2, _⟩ := hnot _ hh
    exact h.hr.disj j hj1 (hj2 ▸ hb)
  refine h.upd ⟨hfr.os.trans h.fr.os, hfr.tape.trans h.fr.tape, hfr.output.trans h.fr.output, Nat.le_trans h.fr.size hfr.size, fun b hb hO => ?_⟩
    (fun i o e => ?_) (fun b p x hs hx => ⟨hs, ?_⟩) (fun _ h => h) (fun i => ?_) (fun i j hi hj e => h.hr.inj i j (hback i hi).1 (hback j hj).1 e) (fun i hi => h.hr.disj i (hback i hi).1)
    (fun i hi => Nat.lt_of_lt_of_le (h.hr.lt i (hback i hi).1) hfr.size) (fun b hb => Nat.lt_of_lt_of_le (h.hr.slt b hb) hfr.size) (fun i hi => h.own i (hback i hi).1) h.sup (fun i ob e ho hge => ?_)
  · rw [hfr.block b (Nat.lt_of_lt_of_le hb h.fr.size) fun hh => ?_]
    · exact h.fr.block b hb hO
    · obtain ⟨i, ho1, rfl, _⟩ := hnot _ hh
      rcases h.own i ho1 with hc | hc
      · exact hO hc
      · omega
  · rcases hl.other i with e2 | ⟨_, e2⟩
    · exact ⟨o, by rw [e2]; exact e, Kept.refl _ _ _⟩
    · exact ⟨.dead, e2, by cases o <;> trivial⟩
  · rw [cell_block (hS b hs)]; exact hx
  · rcases hl.other i with e | ⟨_, e⟩
    · exact .inl ⟨e, rfl, fun ho => hsame i ho e⟩
    · right; unfold NewAt; rw [e]; trivial
  · rcases hl.other i with e2 | ⟨_, e2⟩
    · exact h.loc i ob (by rw [← e2]; exact e) ho hge
    · rw [e2] at e; cases e; exact ho.elim
theorem wp_callp (h : R C ι S σ H a w) {fo : Operand} {f : FuncId} {xs : Array Operand} {ts : Array TypeId} {ys : List (Opd × Mode)} (ho : o.op = .call ⟨.value fo, xs, ts⟩) {fo' : Opd} (hfo : chkOpd fo fo' = true) (e1 : val σ fo' = .c (.fn f)) (hx : chkAs xs.toList ys = true)
    {F : TypeId → IntKind → Int → LH → Prop} (hw : argsW True argBase H (ys.map fun x => (val σ x.1, x.2)) 0 fun args m V H' => (∀ i ∈ V, isLive H' i) ∧ ∃ t k n, CWp P f args t k n ∧ F t k n H') {N : Act → World → Prop} {Q : Exit → Act → World → Prop}
    (hN : ∀ t k n H' w', F t k n H' → R C ι S σ H' a w' → Q (.panic [{ v := .iface t (.int k n), recovered := false }]) a w') : o.wp P a w N Q := by
  have hfv := ev h hfo
  rw [e1] at hfv
  have ef : a.eval fo = .func (.func f) #[] #[] := by
    have hq := avr_c hfv
    generalize a.eval fo = X at hq
    cases hq; rfl
  obtain ⟨hxl, hxv⟩ := chkAs_spec h _ _ hx
  obtain ⟨args, m, V, H', ⟨hlive, t, k, n, hcw, hF⟩, hl, hal, hq, hV⟩ := argsW_spec h trivial argBase _ (xs.toList.map a.eval) H 0 _ (by simpa using hxl) (by simpa using hxv) (fun i ob hi _ => hi) hw
  obtain ⟨hfn, hC⟩ := hcw
  have hlm : (ys.map fun x => (val σ x.1, x.2)).length = args.length := hal.symm
  rw [hlm] at hl hq
  rw [Nat.zero_add] at hl
  simp only [Nat.mul_zero, Nat.add_zero] at hl
  have hV' : ∀ i ∈ V, (∃ e xs, LH.get H i = some (.row e xs)) ∧ isLive H' i := fun i hi => ⟨hV i hi, hlive i hi⟩
  obtain ⟨hsm, hob⟩ := args_OB (by rfl) hl hq
  have hHR := lend_HR h.hr hl hob hV'
  have hAV := args_AVR (by rfl) hl hq (Hx := argsOb argBase args 0) (fun k ob hk => hk)
  have hcall := hC (lendL ι m) (Sv ι S V) w (xs.toList.map a.eval) (by rw [List.length_map, hxl, ← hlm, List.length_map]) hAV hHR
  have hrun : (execOp a.eval o).run P w = .ok (.enter f (xs.toList.map a.eval).toArray) w := by
    unfold isFn at hfn
    split at hfn
    case h_2 => cases hfn
    rename_i fn hf
    simp only [Bool.and_eq_true, bne_iff_ne, ne_eq] at hfn
    obtain ⟨bd, hbd⟩ := Option.isSome_iff_exists.1 hfn.2
    have hnm : (fn.name == "runtime.NumGoroutine") = false := by simpa using hfn.1
    have hnone : fn.body.isNone = false := by rw [hbd]; rfl
    have hargs : (xs.map a.eval) = (xs.toList.map a.eval).toArray := by
      rw [← Array.toList_map, Array.toArray_toList]
    simp only [execOp, ho, resolve, ef, Deferred.ofValue, Sem.run_bind, Sem.run_pure, Result.andThen_ok, invoke, callFunc, Array.empty_append, Array.append_empty]
    simp only [program, Sem.run, Result.andThen_ok, hf, hnm, hnone, Bool.false_eq_true, if_false]
    rw [hargs]
    rfl
  unfold Oper.wp
  rw [hrun, Oper.upon_enter]
  refine hcall.mono fun e w' hp => ?_
  obtain ⟨rfl, hfr⟩ := hp
  exact hN _ _ _ _ _ hF (import_P h hl hob hfr)

theorem op_sound (h : R C ι S σ H a w) {io : Ins} (hc : chkOp P o.op io = true) (hw : opW P g σ H u io K) (hg : g) {N : Act → World → Prop} {Q : Exit → Act → World → Prop}
    (hN : ∀ av ws ι' S' w' v, K av ws → R C ι' S' σ (LH.sets H ws) a w' → AVR ι' (LH.sets H ws) S' w' av v → N (a.put o.dst v) w') : o.wp P a w N Q := by
  have fin : Res P C σ H a w o K → o.wp P a w N Q := fun hr => wp_of_Res hr hN
  have isB_spec : ∀ {b : Builtin} {xs : List Operand} {ts : List TypeId}, isB o.op b = some (xs, ts) → o.op = .call ⟨.builtin b, xs.toArray, ts.toArray⟩ := by
    intro b xs ts hb
    unfold isB at hb
    split at hb
    case h_2 => cases hb
    rename_i c e
    split at hb
    case h_2 => cases hb
    rename_i b' e2
    split at hb
    case isFalse => cases hb
    rename_i e3
    injection hb with hb
    injection hb with h1 h2
    rw [e]
    obtain ⟨cl, ca, ct⟩ := c
    simp only at e2 h1 h2
    subst e2; subst h1; subst h2
    have : b' = b := by simpa using e3
    subst this
    simp
  unfold chkOp at hc
  cases io with
  | mv y =>
    simp only at hc
    split at hc
    · rename_i e; exact fin (res_mv h (.inl e) hc hw)
    · rename_i e; exact fin (res_mv h (.inr e) hc hw)
    · cases hc
  | pick a' b' c' =>
    simp only at hc
    split at hc
    case h_2 => cases hc
    rename_i e
    simp only [Bool.and_eq_true] at hc
    exact fin (res_pick h e hc.1.1 hc.1.2 hc.2 hw hg)
  | bin bop' x' y' =>
    simp only at hc
    split at hc
    case h_2 => cases hc
    rename_i e
    simp only [Bool.and_eq_true, decide_eq_true_eq] at hc
    obtain ⟨⟨rfl, h1⟩, h2⟩ := hc
    exact fin (res_bin h e h1 h2 hw hg)
  | isnil x' neg =>
    simp only at hc
    split at hc
    case h_2 => cases hc
    rename_i e
    simp only [Bool.and_eq_true, decide_eq_true_eq] at hc
    exact fin (res_isnil h e hc.1.1.2 hc.1.2 hc.1.1.1 hc.2 hw hg)
  | beq x' y' =>
    simp only at hc
    split at hc
    case h_2 => cases hc
    rename_i e
    simp only [Bool.and_eq_true] at hc
    exact fin (res_beq h e hc.1.1 hc.1.2 hc.2 hw hg)
  | bne x' y' =>
    simp only at hc
    split at hc
    case h_2 => cases hc
    rename_i e
    simp only [Bool.and_eq_true] at hc
    exact fin (res_bne h e hc.1.1 hc.1.2 hc.2 hw hg)
  | mks n z =>
    simp only at hc
    split at hc
    case h_2 => cases hc
    rename_i e
    exact fin (res_mks h e hc hw)
  | not y =>
    simp only at hc
    split at hc
    case h_2 => cases hc
    rename_i e
    exact fin (res_not h e hc hw hg)
  | cpl y =>
    simp only at hc
    split at hc
    case h_2 => cases hc
    rename_i e
    exact fin (res_cpl h e hc hw hg)
  | conv k y =>
    simp only at hc
    split at hc
    case h_2 => cases hc
    rename_i e
    simp only [Bool.and_eq_true] at hc
    exact fin (res_conv h e hc.1.1 hc.1.2 hc.2 hw hg)
  | b2s y =>
    simp only at hc
    split at hc
    case h_2 => cases hc
    rename_i e
    simp only [Bool.and_eq_true] at hc
    obtain ⟨e8, he, h8⟩ := uSlice_spec hc.2
    exact fin (res_b2s h e hc.1.1 he (isInt_spec h8) (isStr_spec hc.1.2) hw hg)
  | s2b y =>
    simp only at hc
    split at hc
    case h_2 => cases hc
    rename_i e
    simp only [Bool.and_eq_true] at hc
    obtain ⟨e8, he, h8⟩ := uSlice_spec hc.2
    exact fin (res_s2b h e hc.1.1 hc.1.2 he (isInt_spec h8) hw)
  | len b y =>
    simp only at hc
    split at hc
    case h_2 => cases hc
    rename_i e
    simp only [Bool.and_eq_true] at hc
    exact fin (res_len h (isB_spec e) hc.1 hc.2 hw hg)
  | mn x' y' =>
    simp only at hc
    split at hc
    case h_2 => cases hc
    rename_i e
    simp only [Bool.and_eq_true] at hc
    exact fin (res_mn h (isB_spec e) hc.1 hc.2 hw hg)
  | mx x' y' =>
    simp only at hc
    split at hc
    case h_2 => cases hc
    rename_i e
    simp only [Bool.and_eq_true] at hc
    exact fin (res_mx h (isB_spec e) hc.1 hc.2 hw hg)
  | app x' y' esz bytes str =>
    simp only at hc
    split at hc
    case h_2 => cases hc
    rename_i e
    simp only [Bool.and_eq_true] at hc
    exact fin (res_app h (isB_spec e) hc.1.1 hc.1.2 hc.2 hw)
  | call f' ys =>
    simp only at hc
    split at hc
    case h_2 => cases hc
    rename_i c e
    split at hc
    case h_2 => cases hc
    rename_i f e2
    simp only [Bool.and_eq_true] at hc
    obtain ⟨cl, ca, ct⟩ := c
    simp only at e2 hc
    subst e2
    exact wp_call h e hc.1 hc.2 hw hg hN
  | ext y j =>
    simp only at hc
    split at hc
    case h_2 => cases hc
    rename_i e
    simp only [Bool.and_eq_true, decide_eq_true_eq] at hc
    obtain ⟨h1, rfl⟩ := hc
    exact fin (res_ext h e h1 hw hg)
  | sidx x' i' =>
    simp only at hc
    split at hc
    case h_2 => cases hc
    rename_i e
    simp only [Bool.and_eq_true] at hc
    exact fin (res_sidx h e hc.1.1 hc.1.2 hc.2 hw hg)
  | aidx n x' i' =>
    simp only at hc
    split at hc
    case h_2 => cases hc
    rename_i e
    simp only [Bool.and_eq_true] at hc
    obtain ⟨⟨h1, h2⟩, h3⟩ := hc
    split at h3
    · rename_i mm e9 he
      simp only [Bool.and_eq_true, decide_eq_true_eq, beq_iff_eq] at h3
      obtain ⟨⟨rfl, h4⟩, h5⟩ := h3
      exact fin (res_aidx h e h1 h2 he h4 h5 hw hg)
    · cases h3
  | fa x' off =>
    simp only at hc
    split at hc
    case h_2 => cases hc
    rename_i e
    simp only [Bool.and_eq_true] at hc
    exact fin (res_fa h e hc.1 hc.2 hw hg)
  | ia x' i' esz =>
    simp only at hc
    split at hc
    case h_2 => cases hc
    rename_i e
    simp only [Bool.and_eq_true] at hc
    obtain ⟨e8, he, h8⟩ := uSlice_spec hc.2
    exact fin (res_ia h e hc.1.1 hc.1.2 he (by simpa using h8) hw hg)
  | ld x' n =>
    simp only at hc
    split at hc
    case h_2 => cases hc
    rename_i e
    simp only [Bool.and_eq_true] at hc
    exact fin (res_ld h e hc.1 hc.2 hw hg)
  | st x' y' n =>
    simp only at hc
    split at hc
    case h_2 => cases hc
    rename_i e
    simp only [Bool.and_eq_true] at hc
    exact fin (res_st h e hc.1.1 hc.1.2 hc.2 hw)
  | nck x' =>
    simp only at hc
    split at hc
    case h_2 => cases hc
    rename_i e
    exact fin (res_nck h e hc hw hg)
  | alloc z =>
    simp only at hc
    split at hc
    case h_2 => cases hc
    rename_i e
    exact fin (res_alloc h e hc hw)
  | box x' =>
    simp only at hc
    split at hc
    case h_2 => cases hc
    rename_i e
    exact fin (res_box h e hc hw)
  | bld z ps' =>
    simp only at hc
    split at hc
    case h_2 => cases hc
    rename_i e
    exact fin (res_bld h e hc hw hg)
  | bsl esz ps' =>
    simp only at hc
    split at hc
    case h_2 => cases hc
    rename_i e
    exact fin (res_bsl h e hc hw)
  | slc x' lo' hi' mx' esz =>
    simp only at hc
    split at hc
    case h_2 => cases hc
    rename_i e
    simp only [Bool.and_eq_true, Bool.or_eq_true, Bool.not_eq_true'] at hc
    obtain ⟨e8, he, h8⟩ := uSlice_spec hc.2
    refine fin (res_slc h e hc.1.1.1.1.1 hc.1.1.1.1.2 hc.1.1.1.2 hc.1.1.2 (fun hs => ?_) he (by simpa using h8) hw hg)
    rcases hc.1.2 with h9 | h9
    · rw [h9] at hs; cases hs
    · exact h9
  | ssl x' lo' hi' =>
    simp only at hc
    split at hc
    case h_2 => cases hc
    rename_i mx e
    simp only [Bool.and_eq_true, Bool.not_eq_true'] at hc
    have hm : mx = none := by
      cases mx with
      | none => rfl
      | some _ => simp at hc
    subst hm
    exact fin (res_ssl h e hc.1.1.1.2 hc.1.1.2 hc.1.2 (isStr_spec hc.2) hw hg)

end
end Go.Proofs.Ytcpdnpaedkcebaa.V
