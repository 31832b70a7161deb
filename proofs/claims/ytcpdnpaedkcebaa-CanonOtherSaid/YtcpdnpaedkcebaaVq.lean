/- A small calculus over the model, seventeen: how the compact code is reckoned out. -/
import Derived.Test.YtcpdnpaedkcebaaVu
namespace Go.Proofs.Ytcpdnpaedkcebaa.V
open Go Go.RowKit
set_option linter.unusedVariables false
set_option linter.unusedSimpArgs false

section
variable {P : Program} {n : Norm} {X : Slots → LH → Prop} {Q : Ex → Slots → LH → Prop} {σ : Slots} {H : LH} {i id t k : Nat} {a b : IC}
theorem lpR_norm : lpR n X Q .norm σ H = goN X ⟨⟩ (normE σ H n) := (rfl)
theorem lpR_ret : lpR n X Q .ret σ H = Q .ret σ H := (rfl)
theorem lpR_exit : lpR n X Q (.exit i) σ H = Q (.exit i) σ H := (rfl)
def seqR (P : Program) (b : IC) (Q : Ex → Slots → LH → Prop) : Ex → Slots → LH → Prop := fun e σ H =>
  match e with
  | .norm => rnC P b Q σ H
  | .exit i => Q (.exit i) σ H
  | .ret => Q .ret σ H
  | .pan t k n => Q (.pan t k n) σ H
theorem seqR_pan {t : TypeId} {k : IntKind} {n : Int} : seqR P b Q (.pan t k n) σ H = Q (.pan t k n) σ H := (rfl)
theorem seqR_norm : seqR P b Q .norm σ H = rnC P b Q σ H := (rfl)
theorem seqR_ret : seqR P b Q .ret σ H = Q .ret σ H := (rfl)
theorem seqR_exit : seqR P b Q (.exit i) σ H = Q (.exit i) σ H := (rfl)
def blkR (id : Nat) (Q : Ex → Slots → LH → Prop) : Ex → Slots → LH → Prop := fun e σ H =>
  match e with
  | .exit i => (if i = id then Q .norm σ H else Q (.exit i) σ H)
  | .norm => Q .norm σ H
  | .ret => Q .ret σ H
  | .pan t k n => Q (.pan t k n) σ H
theorem blkR_pan {t : TypeId} {k : IntKind} {n : Int} : blkR id Q (.pan t k n) σ H = Q (.pan t k n) σ H := (rfl)
theorem lpR_pan {m : Norm} {t : TypeId} {k : IntKind} {n : Int} : lpR m X Q (.pan t k n) σ H = Q (.pan t k n) σ H := (rfl)
theorem rnC_pan {t : TypeId} {k : IntKind} {n : Int} : rnC P (.pan t k n) Q σ H = Q (.pan t k n) [] H := (rfl)
theorem rnC_trunc {u : Nat} : rnC P (.trunc t k u a) Q σ H = rnC P a (trR t k u Q) σ H := (rfl)
theorem trR_norm {u : Nat} : trR t k u Q .norm σ H = goP (Q .norm σ) ⟨⟩ (truncE H k u (Slots.get σ t)) := (rfl)
theorem trR_ret {u : Nat} : trR t k u Q .ret σ H = Q .ret σ H := (rfl)
theorem trR_exit {u : Nat} : trR t k u Q (.exit i) σ H = Q (.exit i) σ H := (rfl)
theorem trR_pan {u : Nat} {t' : TypeId} {k' : IntKind} {n : Int} : trR t k u Q (.pan t' k' n) σ H = Q (.pan t' k' n) σ H := (rfl)
theorem rnC_loop0 {ts : List Nat} : rnC P (.loop0 ts a) Q σ H = loopZR (rnC P a) ts Q ⟨⟩ ⟨⟩ ⟨⟩ σ H := (rfl)
theorem lpZ_norm {ts : List Nat} : lpZ ts X Q .norm σ H = X (keepS σ ts) H := (rfl)
theorem lpZ_ret {ts : List Nat} : lpZ ts X Q .ret σ H = Q .ret σ H := (rfl)
theorem lpZ_exit {ts : List Nat} : lpZ ts X Q (.exit i) σ H = Q (.exit i) σ H := (rfl)
theorem lpZ_pan {ts : List Nat} {t : TypeId} {k : IntKind} {n : Int} : lpZ ts X Q (.pan t k n) σ H = Q (.pan t k n) σ H := (rfl)
theorem rnC_regc {ops : List IOp} {d : Option Nat} {u : Nat} {f : Opd} {as : List (Opd × Mode)} : rnC P (.regc ops d u f as) Q σ H = rnOps P (fun σ H => rnX P σ H u as (fun v ws => Q .norm (Slots.put σ d v) (LH.sets H ws)) (fun t k n H' => Q (.pan t k n) σ H') ⟨⟩ ⟨⟩ (val σ f)) ops σ H := (rfl)
theorem blkR_norm : blkR id Q .norm σ H = Q .norm σ H := (rfl)
theorem blkR_ret : blkR id Q .ret σ H = Q .ret σ H := (rfl)
theorem blkR_hit (h : i = id) : blkR id Q (.exit i) σ H = Q .norm σ H := if_pos h
theorem blkR_miss (h : ¬ i = id) : blkR id Q (.exit i) σ H = Q (.exit i) σ H := if_neg h
theorem rnC_seq : rnC P (.seq a b) Q σ H = rnC P a (seqR P b Q) σ H := (rfl)
theorem rnC_block : rnC P (.block id a) Q σ H = rnC P a (blkR id Q) σ H := (rfl)
theorem rnC_skip : rnC P .skip Q σ H = Q .norm σ H := (rfl)
theorem rnC_ret : rnC P .ret Q σ H = Q .ret σ H := (rfl)
theorem rnC_exit : rnC P (.exit id) Q σ H = Q (.exit id) σ H := (rfl)
theorem rnC_reg {ops : List IOp} : rnC P (.reg ops) Q σ H = rnOps P (Q .norm) ops σ H := (rfl)
theorem rnC_draw {t : DT} : rnC P (.draw t) Q σ H = rnD P (Q .norm) t [] σ H := (rfl)
theorem rnC_cond {x : Opd} : rnC P (.cond x a b) Q σ H = condK (rnC P a Q (setB σ x true) H) (rnC P b Q (setB σ x false) H) ⟨⟩ ⟨⟩ (val σ x) := (rfl)
theorem rnC_loop : rnC P (.loop n a) Q σ H = loopR (rnC P a) n Q ⟨⟩ ⟨⟩ ⟨⟩ σ H := (rfl)
theorem rnC_keep : rnC P (.keep n a) Q σ H = goN (rnC P a Q) ⟨⟩ (normE σ H n) := (rfl)
theorem rnC_pub : rnC P (.pub t a) Q σ H = goP (rnC P a Q σ) ⟨⟩ (pubE H (Slots.get σ t)) := (rfl)
theorem rnC_pubc : rnC P (.pubc t k a) Q σ H = goP (rnC P a Q σ) ⟨⟩ (pubcE H k (Slots.get σ t)) := (rfl)
end

/-- A loop by a measure: at its head stands one of these states. -/
theorem loopR.by {α : Type} {B : (Ex → Slots → LH → Prop) → Slots → LH → Prop} {n : Norm} {Q : Ex → Slots → LH → Prop} {b : Bar B} {b' : Bar n} {b'' : Bar Q} {σ : Slots} {H : LH}
    (s : α → Slots) (h : α → LH) (m : α → Nat) (I : α → Prop) (a : α) (ha : I a)
    (entry : ∀ Y : Slots → LH → Prop, Y (s a) (h a) → goN Y ⟨⟩ (normE σ H n))
    (step : ∀ a, I a → ∀ Y : Slots → LH → Prop, (∀ a', I a' → m a' < m a → Y (s a') (h a')) → B (lpR n Y Q) (s a) (h a)) :
    loopR B n Q b b' b'' σ H := by
  intro X hX
  refine entry X ?_
  have main : ∀ k a, m a < k → I a → X (s a) (h a) := by
    intro k
    induction k with
    | zero => intro a h _; omega
    | succ k ih =>
      intro a hk hi
      exact hX _ _ (step a hi X fun a' hi' hlt => ih a' (by omega) hi')
  exact main _ a (Nat.lt_succ_self _) ha

theorem loopZR.by {α : Type} {B : (Ex → Slots → LH → Prop) → Slots → LH → Prop} {ts : List Nat} {Q : Ex → Slots → LH → Prop} {b : Bar B} {b' : Bar ts} {b'' : Bar Q} {σ : Slots} {H : LH}
    (s : α → Slots) (h : α → LH) (m : α → Nat) (I : α → Prop) (a : α) (ha : I a)
    (entry : ∀ Y : Slots → LH → Prop, Y (s a) (h a) → Y (keepS σ ts) H)
    (step : ∀ a, I a → ∀ Y : Slots → LH → Prop, (∀ a', I a' → m a' < m a → Y (s a') (h a')) → B (lpZ ts Y Q) (s a) (h a)) :
    loopZR B ts Q b b' b'' σ H := by
  intro X hX
  refine entry X ?_
  have main : ∀ k a, m a < k → I a → X (s a) (h a) := by
    intro k
    induction k with
    | zero => intro a h _; omega
    | succ k ih =>
      intro a hk hi
      exact hX _ _ (step a hi X fun a' hi' hlt => ih a' (by omega) hi')
  exact main _ a (Nat.lt_succ_self _) ha

theorem CW.of {P : Program} {f : FuncId} {fn : Func} (hf : P.funcs[f]? = some fn) {args : List Arg} {out : Out} (rs : List (Nat × Option Nat × Mode)) (mss : List (List (Option Nat))) {ic : IC}
    (hb : (match fn.body with | some _ => true | none => false) = true) (hfn : isFn P f = true) (hr : chkRet P fn.results.toList rs = true) (ha : args.length.ble fn.ntmps = true) (h8 : args.length.ble 8 = true)
    (hc : chkC P fn.ntmps ic (fn.body.getD .skip) = true) (hbk : backOK args out.back)
    (hw : rnC P ic (fun e σ H => match e with | .exit _ => False | .pan _ _ _ => False | _ => retW σ H rs args mss out) (slotsOf (argsAV argBase args 0) 0) (argsOb argBase args 0)) : CW P f args out := by
  cases hbd : fn.body with
  | none => rw [hbd] at hb; cases hb
  | some c =>
    rw [hbd] at hc
    exact CW_of hf hbd hfn hr (Nat.le_of_ble_eq_true ha) (Nat.le_of_ble_eq_true h8) hc hbk (rn_ok _ (fun _ _ _ h => h) hw)

def topQ (rs : List (Nat × Option Nat × Mode)) (args : List Arg) (mss : List (List (Option Nat))) (out : Out) : Ex → Slots → LH → Prop := fun e σ H =>
  match e with
  | .exit _ => False
  | .pan _ _ _ => False
  | _ => retW σ H rs args mss out
theorem topQ_ret {rs : List (Nat × Option Nat × Mode)} {args : List Arg} {mss : List (List (Option Nat))} {out : Out} {σ : Slots} {H : LH} : topQ rs args mss out .ret σ H = retW σ H rs args mss out := (rfl)
theorem topQ_norm {rs : List (Nat × Option Nat × Mode)} {args : List Arg} {mss : List (List (Option Nat))} {out : Out} {σ : Slots} {H : LH} : topQ rs args mss out .norm σ H = retW σ H rs args mss out := (rfl)
theorem topQ_exit {rs : List (Nat × Option Nat × Mode)} {args : List Arg} {mss : List (List (Option Nat))} {out : Out} {σ : Slots} {H : LH} {i : Nat} : topQ rs args mss out (.exit i) σ H = False := (rfl)

theorem topQ_pan {rs : List (Nat × Option Nat × Mode)} {args : List Arg} {mss : List (List (Option Nat))} {out : Out} {σ : Slots} {H : LH} {t : TypeId} {k : IntKind} {n : Int} : topQ rs args mss out (.pan t k n) σ H = False := (rfl)
def topP (t : TypeId) (k : IntKind) (n : Int) : Ex → Slots → LH → Prop := fun e σ H =>
  match e with
  | .pan t' k' n' => t' = t ∧ k' = k ∧ n' = n
  | _ => False
theorem CWp.of {P : Program} {f : FuncId} {fn : Func} (hf : P.funcs[f]? = some fn) {args : List Arg} {t : TypeId} {k : IntKind} {n : Int} {ic : IC}
    (hb : (match fn.body with | some _ => true | none => false) = true) (hfn : isFn P f = true) (ha : args.length.ble fn.ntmps = true)
    (hc : chkC P fn.ntmps ic (fn.body.getD .skip) = true)
    (hw : rnC P ic (topP t k n) (slotsOf (argsAV argBase args 0) 0) (argsOb argBase args 0)) : CWp P f args t k n := by
  cases hbd : fn.body with
  | none => rw [hbd] at hb; cases hb
  | some c =>
    rw [hbd] at hc
    exact CWp_of hf hbd hfn (Nat.le_of_ble_eq_true ha) hc (rn_ok _ (fun _ _ _ h => h) hw)
theorem get_hit {k i : Nat} {v : AV} {σ : List (Nat × AV)} (h : (k == i) = true) : Slots.get ((k, v) :: σ) i = v := by
  have : k = i := by simpa using h
  simp [Slots.get, this]
theorem get_miss {k i : Nat} {v : AV} {σ : List (Nat × AV)} (h : (k == i) = false) : Slots.get ((k, v) :: σ) i = Slots.get σ i := by
  have : ¬ k = i := by simpa using h
  simp [Slots.get, this]
attribute [go_sem ↓] rnC_seq rnC_block rnC_skip rnC_ret rnC_exit rnC_reg rnC_draw rnC_cond rnC_loop rnC_keep rnC_pub rnC_pubc rnC_loop0 lpZ_norm lpZ_ret lpZ_exit lpZ_pan trR_norm trR_ret trR_exit trR_pan keepS rnC_pan rnC_regc rnC_trunc seqR_pan blkR_pan lpR_pan seqR_norm seqR_ret seqR_exit blkR_norm blkR_ret blkR_hit blkR_miss lpR_norm lpR_ret lpR_exit rnOps_nil rnOps_cons rnD_done rnD_no rnD_take rnD_br pendR_nil pendR_cons rnS_call rnS_callg rnS_mv rnS_pick rnS_bin rnS_not rnS_cpl rnS_conv rnS_b2s rnS_s2b rnS_len rnS_mn rnS_mx rnS_ext rnS_sidx rnS_aidx rnS_fa rnS_ia rnS_ld rnS_st rnS_nck rnS_alloc rnS_box rnS_bld rnS_bsl rnS_slc rnS_ssl rnS_app rnS_isnil rnS_beq rnS_bne rnS_mks
attribute [go_sem] go3_some goA_some goN_some goP_some rnX_fn goX_some tcRow tcCell tcObj truncE rnF_fn rnG_c rnG_g condK_bool evS evO evG grd3 ungE lift3 eBinI eInt eStr eFlt eBin eBeq eBne ePick eNot eCpl eConv eRowLen eNat eLen eRow eElems eB2s eB2s' eS2b eMn eMx eExt eSidx eAidx eFaO eFaR eFa eIaR eIa eClosed eAgg eLdO eLdR eLd eStO eStR eSt eNckO eNckR eNck eBox eBldC eBld eBldF eBslF eIntO eOpt bndP eSlcR eSlcV eSlc eSsl eAppR eApp eNilR eNil cPre cRow cellsE aPlain aViewR aView aMoveR aMove aMutrR aMutr aPtrC aPtrR aPtr argE aJoin aThen argsE kin kPlain kOwnR kOwn keepE klPre klThen keepCellsE koPre koThen koR keepObjsE ksPre ksThen keepSlotsE nFin nThen normE pcRow pcCell pcObj pubE pubcE storable
attribute [go_sem] List.getD_nil not_true_eq_false List.cons_append List.nodup_nil List.nodup_cons flat setB sel eq_self val Slots.get Slots.put Slots.set LH.get LH.set LH.sets slotsOf argsAV argsOb cellsAV cellsOb Arg.av Arg.ob OC.av OC.ob OC.arg impAV impOb impRes mget backW backArgs deadOf setC isLive argBase Option.getD_some Option.getD_none
attribute [go_sem] true_and and_true List.append_nil List.nil_append List.map_cons List.map_nil List.not_mem_nil false_implies implies_true forall_const decide_eq_true_eq decide_eq_false_iff_not List.length_nil true_implies Int.not_lt gt_iff_lt ge_iff_le Int.not_le false_and and_false List.forall_mem_cons Prod.forall List.mem_cons forall_eq_or_imp forall_eq
theorem wf_one {v : CV} (h : v.one = true) : CV.wf 1 v := by
  cases v <;> first | (cases h; done) | (refine ⟨rfl, fun c hc => ?_⟩; simp [CV.cells] at hc; subst hc; rfl)
theorem wf_int {k : IntKind} {n : Int} : CV.wf 1 (.int k n) = True := eq_true (wf_one rfl)
theorem wf_str {s : ByteArray} : CV.wf 1 (.str s) = True := eq_true (wf_one rfl)
theorem wf_agg {n : Nat} {cs : List CV} : CV.wf n (.agg cs) = (cs.length = n ∧ ∀ c ∈ cs, c.one = true) := rfl
theorem fresh_nil {u : Nat} : fresh [] u = (u < 15000) := by simp [fresh]
theorem fresh_cons {u k : Nat} {o : LObj} {H : List (Nat × LObj)} : fresh ((k, o) :: H) u = (k / 64 ≠ u ∧ fresh H u) := by
  apply propext
  unfold fresh
  simp only [List.forall_mem_cons]
  constructor
  · rintro ⟨a, b, c⟩; exact ⟨b, a, c⟩
  · rintro ⟨a, b, c⟩; exact ⟨b, a, c⟩
theorem freshC_nil {u : Nat} : freshC [] u = (u + 10 < 15000) := by simp [freshC]
theorem freshC_cons {u k : Nat} {o : LObj} {H : List (Nat × LObj)} : freshC ((k, o) :: H) u = ((k / 64 < u ∨ u + 9 ≤ k / 64) ∧ freshC H u) := by
  apply propext
  unfold freshC
  simp only [List.forall_mem_cons]
  constructor
  · rintro ⟨a, b, c⟩; exact ⟨b, a, c⟩
  · rintro ⟨a, b, c⟩; exact ⟨b, a, c⟩
attribute [go_sem] fresh_nil fresh_cons freshC_nil freshC_cons
theorem ex_agg {l : List CV} : (∃ cs, CV.agg l = CV.agg cs) = True := eq_true ⟨_, rfl⟩
theorem tf : (true = false) = False := by simp
theorem ft : (false = true) = False := by simp
theorem tt : (true = true) = True := by simp
theorem ff : (false = false) = True := by simp
attribute [go_sem ↓] topQ_ret topQ_norm topQ_exit topQ_pan
attribute [go_sem] ex_agg tf ft tt ff wf_int wf_str wf_agg CV.one CV.cells true_or or_true ne_eq not_false_eq_true List.drop_zero List.take_zero List.length_cons List.length_append List.length_map List.getD_cons_zero List.getD_cons_succ List.set_cons_zero List.set_cons_succ Nat.zero_add List.take_succ_cons List.drop_succ_cons List.drop_nil List.take_nil exists_const
theorem bt (b : Bool) : (b == true) = b := by cases b <;> rfl
theorem bf (b : Bool) : (b == false) = !b := by cases b <;> rfl
attribute [go_sem] bt bf Bool.not_eq_true' Bool.not_eq_false' Bool.and_eq_true Bool.or_eq_true beq_iff_eq bne_iff_ne beq_eq_false_iff_ne bne_eq_false_iff_eq Bool.and_eq_false_iff Bool.or_eq_false_iff Bool.not_true Bool.not_false if_true if_false

theorem retVals_mono {H : LH} {σ : Slots} : ∀ {rs : List (Nat × Option Nat × Mode)} {K K' : List (AV × Mode) → Prop}, retVals H σ rs K → (∀ vs, K vs → K' vs) → retVals H σ rs K'
  | [], K, K', h, f => f _ h
  | (t, none, md) :: l, K, K', h, f => by
    simp only [retVals] at h ⊢
    exact retVals_mono (rs := l) h fun vs hv => f _ hv
  | (t, some n, md) :: l, K, K', h, f => by
    simp only [retVals] at h ⊢
    obtain ⟨v, a, b⟩ := ex_load h
    exact b _ (retVals_mono (rs := l) a fun vs hv => f _ hv)
theorem backL_mono {H : LH} : ∀ {as : List Arg} {mss : List (List (Option Nat))} {j : Nat} {K K' : List (AV × Mode) → Prop}, backL H as mss j K → (∀ vs, K vs → K' vs) → backL H as mss j K'
  | [], mss, j, K, K', h, f => f _ h
  | .cv _ :: as, mss, j, K, K', h, f => by
    simp only [backL] at h ⊢
    exact backL_mono (as := as) h fun vs hv => f _ hv
  | .own _ _ :: as, mss, j, K, K', h, f => by
    simp only [backL] at h ⊢
    exact backL_mono (as := as) h fun vs hv => f _ hv
  | .mutr _ _ :: as, mss, j, K, K', h, f => by
    simp only [backL] at h ⊢
    split at h
    · exact backL_mono (as := as) h fun vs hv => f _ hv
    · exact h.elim
  | .obj _ :: as, [], j, K, K', h, f => by simp only [backL] at h
  | .obj _ :: as, ms :: mss, j, K, K', h, f => by
    simp only [backL] at h ⊢
    split at h
    · exact backL_mono (as := as) h fun vs hv => f _ hv
    · exact h.elim
theorem ungW_mono {g : Prop} {v : AV} {K K' : AV → Prop} (h : ungW g v K) (f : ∀ v, K v → K' v) : ungW g v K' := by
  obtain ⟨v', a, b⟩ := ex_ung h
  exact b _ (f _ a)
theorem cellsW_mono {base : Nat} : ∀ {ms : List (Option Nat)} {cs : List AV} {H : LH} {k : Nat} {K K' : List OC → List (Nat × Option Nat) → LH → Prop}, cellsW base H ms cs k K → (∀ a b c, K a b c → K' a b c) → cellsW base H ms cs k K' := by
  intro ms
  induction ms with
  | nil =>
    intro cs H k K K' h f
    cases cs with
    | nil => exact f _ _ _ h
    | cons => simp [cellsW] at h
  | cons m ms ih =>
    intro cs H k K K' h f
    cases cs with
    | nil => cases m <;> simp [cellsW] at h
    | cons c cs =>
      cases m with
      | none =>
        cases c with
        | c x => simp only [cellsW] at h ⊢; exact ih h fun a b c hh => f _ _ _ hh
        | _ => simp [cellsW] at h
      | some e =>
        cases c with
        | c x =>
          cases x with
          | nilsl => simp only [cellsW] at h ⊢; exact ih h fun a b c hh => f _ _ _ hh
          | _ => simp [cellsW] at h
        | osl i off len =>
          simp only [cellsW] at h ⊢
          split at h
          · exact ⟨h.1, ih h.2 fun a b c hh => f _ _ _ hh⟩
          · exact h.elim
        | _ => simp [cellsW] at h
theorem argW_mono {g : Prop} {H : LH} {id : Nat} {v : AV} {md : Mode} {K K' : Arg → List (Nat × Option Nat) → List Nat → LH → Prop} (h : argW g H id v md K) (f : ∀ a b c d, K a b c d → K' a b c d) : argW g H id v md K' := by
  cases md with
  | plain =>
    refine ungW_mono h fun v hv => ?_
    split at hv
    · exact f _ _ _ _ hv
    · exact hv.elim
  | view e =>
    refine ungW_mono h fun v hv => ?_
    split at hv
    · exact f _ _ _ _ hv
    · exact f _ _ _ _ hv
    · split at hv
      · exact f _ _ _ _ hv
      · exact f _ _ _ _ hv
      · exact hv.elim
    · exact hv.elim
  | move e =>
    simp only [argW] at h ⊢
    split at h
    · exact f _ _ _ _ h
    · split at h
      · exact ⟨h.1, f _ _ _ _ h.2⟩
      · exact h.elim
    · exact h.elim
  | mutr =>
    simp only [argW] at h ⊢
    split at h
    · split at h
      · exact ⟨h.1, f _ _ _ _ h.2⟩
      · exact h.elim
    · exact h.elim
  | ptr ms =>
    simp only [argW] at h ⊢
    split at h
    · split at h
      · exact ⟨h.1, cellsW_mono h.2 fun a b c hh => f _ _ _ _ hh⟩
      · exact h.elim
    · exact h.elim
theorem argsW_mono {g : Prop} {base : Nat} : ∀ {l : List (AV × Mode)} {H : LH} {j : Nat} {K K' : List Arg → List (Nat × Option Nat) → List Nat → LH → Prop}, argsW g base H l j K → (∀ a b c d, K a b c d → K' a b c d) → argsW g base H l j K'
  | [], H, j, K, K', h, f => f _ _ _ _ h
  | (v, md) :: l, H, j, K, K', h, f => by
    simp only [argsW] at h ⊢
    exact argW_mono h fun a b c d hh => argsW_mono (l := l) hh fun a' b' c' d' hh' => f _ _ _ _ hh'

/-- No argument is lent. -/
def unlent : List Arg → Bool
  | [] => true
  | .cv _ :: l => unlent l
  | .own _ _ :: l => unlent l
  | _ => false
theorem back_unlent : ∀ (as : List Arg) (H H1 : LH) (j : Nat) (K : List Arg → List (Nat × Option Nat) → List Nat → LH → Prop), unlent as = true → K (backArgs as []) [] [] H1 →
    backL H1 as [] j fun bl => ∀ j', argsW True argBase H1 bl j' K
  | [], H, H1, j, K, _, h => fun j' => h
  | .cv v :: as, H, H1, j, K, hu, h => by
    simp only [backL]
    refine (fun (x : backL H1 as [] (j + 1) fun bl => ∀ j', argsW True argBase H1 bl j' fun as' m' V' H'' => K (.cv .undef :: as') ([] ++ m') ([] ++ V') H'') => ?_) (back_unlent as H H1 (j + 1) _ hu h)
    refine (backL_mono x fun bl hbl j' => ?_)
    exact hbl (j' + 1)
  | .own e v :: as, H, H1, j, K, hu, h => by
    simp only [backL]
    refine (fun (x : backL H1 as [] (j + 1) fun bl => ∀ j', argsW True argBase H1 bl j' fun as' m' V' H'' => K (.cv .undef :: as') ([] ++ m') ([] ++ V') H'') => ?_) (back_unlent as H H1 (j + 1) _ hu h)
    refine (backL_mono x fun bl hbl j' => ?_)
    exact hbl (j' + 1)
  | .mutr _ _ :: _, _, _, _, _, hu, _ => by cases hu
  | .obj _ :: _, _, _, _, _, hu, _ => by cases hu

theorem retW_unlent {σ : Slots} {H : LH} {rs : List (Nat × Option Nat × Mode)} {as : List Arg} {res : List OC} (hu : unlent as = true)
    (h : retVals H σ rs fun vs => argsW True retBase H vs 0 fun ras m1 V1 H1 => ras = res.map OC.arg ∧ V1 = []) : retW σ H rs as [] ⟨res, []⟩ := by
  unfold retW
  refine retVals_mono h fun vs hv => ?_
  refine argsW_mono hv fun ras m1 V1 H1 hh => ?_
  obtain ⟨rfl, rfl⟩ := hh
  refine backL_mono (back_unlent as H H1 0 (fun bas m2 V2 H2 => (List.map OC.arg res = List.map OC.arg res ∧ bas = backArgs as []) ∧ ∀ i ∈ ([] : List Nat) ++ V2, isLive H2 i) hu ⟨⟨rfl, rfl⟩, by simp⟩) fun bl hbl => hbl 0

/-- One value comes out. -/
theorem ret1 {t : Nat} {v : CV} {as : List Arg} {σ : Slots} {H : LH} (hu : unlent as = true) (h : Slots.get σ t = .c v) : topQ [(t, none, .plain)] as [] ⟨[.cv v], []⟩ .ret σ H := by
  refine retW_unlent hu ?_
  simp only [retVals, argsW, argW, ungW, h]
  exact ⟨rfl, rfl⟩
theorem ret2 {t t' : Nat} {v v' : CV} {as : List Arg} {σ : Slots} {H : LH} (hu : unlent as = true) (h : Slots.get σ t = .c v) (h' : Slots.get σ t' = .c v') :
    topQ [(t, none, .plain), (t', none, .plain)] as [] ⟨[.cv v, .cv v'], []⟩ .ret σ H := by
  refine retW_unlent hu ?_
  simp only [retVals, argsW, argW, ungW, h, h']
  exact ⟨rfl, rfl⟩
theorem ret3 {t t' t'' : Nat} {v v' v'' : CV} {as : List Arg} {σ : Slots} {H : LH} (hu : unlent as = true) (h : Slots.get σ t = .c v) (h' : Slots.get σ t' = .c v') (h'' : Slots.get σ t'' = .c v'') :
    topQ [(t, none, .plain), (t', none, .plain), (t'', none, .plain)] as [] ⟨[.cv v, .cv v', .cv v''], []⟩ .ret σ H := by
  refine retW_unlent hu ?_
  simp only [retVals, argsW, argW, ungW, h, h', h'']
  exact ⟨rfl, rfl⟩
/-- A row of its own comes out. -/
def OwnAt (e : Nat) (xs : List CV) (v : AV) (H : LH) : Prop := (v = .c .nilsl ∧ xs = []) ∨ ∃ i, v = .osl i 0 xs.length ∧ LH.get H i = some (.row e xs)
theorem retO {t e : Nat} {xs : List CV} {as : List Arg} {σ : Slots} {H : LH} (hu : unlent as = true) (h : OwnAt e xs (Slots.get σ t) H) : topQ [(t, none, .move e)] as [] ⟨[.own e xs], []⟩ .ret σ H := by
  refine retW_unlent hu ?_
  rcases h with ⟨h1, rfl⟩ | ⟨i, h1, h2⟩
  · simp only [retVals, argsW, argW, h1]
    exact ⟨rfl, rfl⟩
  · simp only [retVals, argsW, argW, h1, h2, true_and]
    exact ⟨rfl, rfl⟩

theorem ite_and {p : Prop} [Decidable p] {b : Bool} : (if p then b else false) = (decide p && b) := by by_cases h : p <;> simp [h]
theorem ite_or {p : Prop} [Decidable p] {b : Bool} : (if p then true else b) = (decide p || b) := by by_cases h : p <;> simp [h]
theorem and_imp_l {p q : Prop} : (p ∧ q → p) = True := by simp; exact fun a _ => a
theorem and_imp_r {p q : Prop} : (p ∧ q → q) = True := by simp
attribute [go_sem] ite_and ite_or imp_self and_self and_imp_l and_imp_r Bool.decide_eq_true Bool.decide_and Bool.decide_or decide_not Bool.and_self Bool.decide_coe
end Go.Proofs.Ytcpdnpaedkcebaa.V
