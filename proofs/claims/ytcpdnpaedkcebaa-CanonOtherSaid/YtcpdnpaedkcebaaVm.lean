/- A small calculus over the model, thirteen: steps and regions. -/
import Derived.Test.YtcpdnpaedkcebaaVl
namespace Go.Proofs.Ytcpdnpaedkcebaa.V
open Go Go.RowKit
set_option linter.unusedVariables false
set_option linter.unusedSimpArgs false

section
variable {P : Program} {C : Ctx} {ι : Nat → Loc} {S : Nat → Prop} {σ : Slots} {H : LH} {a : Act} {w : World} {o : Oper} {g : Prop} {u : Nat}

theorem rc_ung {v : AV} {F : AV → Prop} (h : ungW g v F) : ∃ v', F v' := by
  unfold ungW at h
  split at h
  · exact ⟨_, h.2⟩
  · exact ⟨_, h⟩
theorem rc_pick {t : Bool} {x y : AV} {F : AV → Prop} (h : pickW g t x y F) : ∃ v', F v' := by
  unfold pickW at h
  split at h
  · exact ⟨_, h⟩
  · exact ⟨_, h.2⟩
  · exact ⟨_, h.2⟩
  · exact ⟨_, h.2.2⟩
  · exact ⟨_, h.2⟩
  · exact ⟨_, h.2⟩
  · exact ⟨_, h.2⟩
  · exact ⟨_, h.2⟩
  · exact h.elim
theorem rc_binI {op : BinOp} {k : IntKind} {x y : Int} {F : CV → Prop} (h : binI g op k x y F) : ∃ v', F v' := by
  unfold binI at h
  split at h <;> first | exact ⟨_, h⟩ | exact ⟨_, h.2⟩ | exact h.elim
theorem rc_bin {op : BinOp} {x y : AV} {F : CV → Prop} (h : binW g op x y F) : ∃ v', F v' := by
  obtain ⟨v1, h⟩ := rc_ung h
  obtain ⟨v2, h⟩ := rc_ung h
  split at h
  · split at h
    · exact ⟨_, h.2⟩
    · exact ⟨_, h.2⟩
    · exact rc_binI h.2
  · unfold binS at h
    split at h <;> first | exact ⟨_, h⟩ | exact h.elim
  · unfold binF at h
    split at h <;> first | exact ⟨_, h⟩ | exact h.elim
  · exact h.elim
theorem rc_len {b : Bool} {x : AV} {F : Nat → Prop} (h : lenW g H b x F) : ∃ v', F v' := by
  obtain ⟨v1, h⟩ := rc_ung h
  split at h
  · exact ⟨_, h⟩
  · exact ⟨_, h⟩
  · exact ⟨_, h⟩
  · split at h <;> first | exact ⟨_, h⟩ | exact h.elim
  · exact h.elim
theorem rc_elems {b : Bool} {e : Nat} {x : AV} {F : List CV → Prop} (h : elemsW H b e x F) : ∃ v', F v' := by
  unfold elemsW at h
  split at h
  · exact ⟨_, h⟩
  · exact ⟨_, h.2⟩
  · exact ⟨_, h.2⟩
  · split at h <;> first | exact ⟨_, h.2⟩ | exact h.elim
  · exact h.elim
theorem rc_closed : ∀ {l : List AV} {F : List CV → Prop}, closedW l F → ∃ v', F v' := fun h => by
  obtain ⟨vs, _, h⟩ := closedW_spec h
  exact ⟨vs, h⟩
theorem rc_load {x : AV} {n : Option Nat} {F : AV → Prop} (h : loadW g H x n F) : ∃ v', F v' := by
  obtain ⟨v1, h⟩ := rc_ung h
  split at h
  · split at h
    · split at h
      · exact ⟨_, h.2⟩
      · obtain ⟨_, h⟩ := rc_closed h.2; exact ⟨_, h⟩
    · exact h.elim
  · split at h
    · unfold ldRow at h
      split at h <;> exact ⟨_, h.2⟩
    · unfold ldRow at h
      split at h <;> exact ⟨_, h.2⟩
    · exact h.elim
  · split at h <;> exact ⟨_, h.2⟩
  · exact h.elim
theorem rc_store {x v : AV} {n : Option Nat} {F : List (Nat × LObj) → Prop} (h : storeW H x v n F) : ∃ v', F v' := by
  unfold storeW at h
  split at h
  · split at h
    · split at h
      · exact ⟨_, h.2.2⟩
      · split at h <;> first | exact ⟨_, h.2⟩ | exact h.elim
    · exact h.elim
  · split at h
    · split at h
      · exact ⟨_, h.2.2⟩
      · exact ⟨_, h.2⟩
      · exact h.elim
    · exact h.elim
  · exact h.elim
theorem rc_bld {σ : Slots} : ∀ {ps : List (Nat × Opd)} {z : List CV} {F : List CV → Prop}, bldW σ g z ps F → ∃ v', F v'
  | [], z, F, h => ⟨_, h⟩
  | (i, x) :: ps, z, F, h => by
    obtain ⟨v1, h⟩ := rc_ung h
    split at h
    · exact rc_bld h.2
    · exact h.elim
theorem rc_opt {x : Option Opd} {F : Option Int → Prop} (h : optI g σ x F) : ∃ v', F v' := by
  unfold optI at h
  split at h
  · exact ⟨_, h⟩
  · obtain ⟨v1, h⟩ := rc_ung h
    split at h <;> first | exact ⟨_, h⟩ | exact h.elim
theorem rc_cells {base : Nat} {ms : List (Option Nat)} {cs : List AV} {k : Nat} {F : List OC → List (Nat × Option Nat) → LH → Prop} (h : cellsW base H ms cs k F) : ∃ l m H', F l m H' := by
  obtain ⟨l, m, H', h, _⟩ := cellsW_spec base ms cs H k F h
  exact ⟨l, m, H', h⟩
theorem rc_arg {id : Nat} {v : AV} {md : Mode} {F : Arg → List (Nat × Option Nat) → List Nat → LH → Prop} (h : argW g H id v md F) : ∃ a m V H', F a m V H' := by
  cases md with
  | plain =>
    obtain ⟨v1, h⟩ := rc_ung h
    split at h <;> first | exact ⟨_, _, _, _, h⟩ | exact h.elim
  | view e =>
    obtain ⟨v1, h⟩ := rc_ung h
    split at h
    · exact ⟨_, _, _, _, h⟩
    · exact ⟨_, _, _, _, h⟩
    · split at h <;> first | exact ⟨_, _, _, _, h⟩ | exact h.elim
    · exact h.elim
  | move e =>
    simp only [argW] at h
    split at h
    · exact ⟨_, _, _, _, h⟩
    · split at h <;> first | exact ⟨_, _, _, _, h.2⟩ | exact h.elim
    · exact h.elim
  | mutr =>
    simp only [argW] at h
    split at h
    · split at h <;> first | exact ⟨_, _, _, _, h.2⟩ | exact h.elim
    · exact h.elim
  | ptr ms =>
    simp only [argW] at h
    split at h
    · split at h
      · obtain ⟨l, m, H', h⟩ := rc_cells h.2; exact ⟨_, _, _, _, h⟩
      · exact h.elim
    · exact h.elim
theorem rc_args (base : Nat) : ∀ (l : List (AV × Mode)) (H : LH) (j : Nat) (F : List Arg → List (Nat × Option Nat) → List Nat → LH → Prop), argsW g base H l j F → ∃ a m V H', F a m V H'
  | [], H, j, F, h => ⟨_, _, _, _, h⟩
  | (v, md) :: l, H, j, F, h => by
    obtain ⟨a, m, V, H', h⟩ := rc_arg h
    obtain ⟨as, m', V', H'', h⟩ := rc_args base l H' (j + 1) _ h
    exact ⟨_, _, _, _, h⟩

theorem rc_op {io : Ins} {K : AV → List (Nat × LObj) → Prop} (h : opW P g σ H u io K) : ∃ av ws, K av ws := by
  cases io with
  | mv x => exact ⟨_, _, h⟩
  | pick c x y =>
    obtain ⟨v1, h⟩ := rc_ung h
    split at h
    · obtain ⟨v, h⟩ := rc_pick h; exact ⟨_, _, h⟩
    · exact h.elim
  | bin op x y => obtain ⟨v, h⟩ := rc_bin h; exact ⟨_, _, h⟩
  | not x =>
    obtain ⟨v1, h⟩ := rc_ung h
    split at h <;> first | exact ⟨_, _, h⟩ | exact h.elim
  | cpl x =>
    obtain ⟨v1, h⟩ := rc_ung h
    split at h <;> first | exact ⟨_, _, h⟩ | exact h.elim
  | conv k x =>
    obtain ⟨v1, h⟩ := rc_ung h
    split at h <;> first | exact ⟨_, _, h⟩ | exact h.elim
  | b2s x =>
    obtain ⟨v1, h⟩ := rc_ung h
    obtain ⟨xs, h⟩ := rc_elems h
    exact ⟨_, _, h.2⟩
  | s2b x =>
    simp only [opW] at h
    split at h <;> first | exact ⟨_, _, h.2.2⟩ | exact h.elim
  | len b x => simp only [opW] at h; obtain ⟨v, h⟩ := rc_len h; exact ⟨_, _, h⟩
  | mn x y =>
    obtain ⟨v1, h⟩ := rc_ung h
    obtain ⟨v2, h⟩ := rc_ung h
    split at h <;> first | exact ⟨_, _, h.2⟩ | exact h.elim
  | mx x y =>
    obtain ⟨v1, h⟩ := rc_ung h
    obtain ⟨v2, h⟩ := rc_ung h
    split at h <;> first | exact ⟨_, _, h.2⟩ | exact h.elim
  | ext x i =>
    obtain ⟨v1, h⟩ := rc_ung h
    split at h <;> first | exact ⟨_, _, h.2⟩ | exact h.elim
  | sidx x i =>
    obtain ⟨v1, h⟩ := rc_ung h
    obtain ⟨v2, h⟩ := rc_ung h
    split at h <;> first | exact ⟨_, _, h.2⟩ | exact h.elim
  | aidx n x i =>
    obtain ⟨v1, h⟩ := rc_ung h
    obtain ⟨v2, h⟩ := rc_ung h
    split at h <;> first | exact ⟨_, _, h.2.2⟩ | exact h.elim
  | fa x off =>
    obtain ⟨v1, h⟩ := rc_ung h
    split at h
    · split at h <;> first | exact ⟨_, _, h.2⟩ | exact h.elim
    · split at h <;> first | exact ⟨_, _, h⟩ | exact h.elim
    · exact ⟨_, _, h⟩
    · exact h.elim
  | ia x i e =>
    obtain ⟨v1, h⟩ := rc_ung h
    obtain ⟨v2, h⟩ := rc_ung h
    split at h
    · split at h <;> first | exact ⟨_, _, h.2.2⟩ | exact h.elim
    · exact ⟨_, _, h.2.2⟩
    · exact h.elim
  | ld x n => simp only [opW] at h; obtain ⟨v, h⟩ := rc_load h; exact ⟨_, _, h⟩
  | st x v n => obtain ⟨ws, h⟩ := rc_store h; exact ⟨_, _, h⟩
  | nck x =>
    obtain ⟨v1, h⟩ := rc_ung h
    split at h
    · split at h <;> first | exact ⟨_, _, h⟩ | exact h.elim
    · exact ⟨_, _, h⟩
    · split at h <;> first | exact ⟨_, _, h⟩ | exact h.elim
    · exact h.elim
  | alloc z => exact ⟨_, _, h.2⟩
  | box x =>
    simp only [opW] at h
    split at h
    · exact ⟨_, _, h.2⟩
    · exact ⟨_, _, h.2⟩
  | bld z ps => obtain ⟨v, h⟩ := rc_bld h; exact ⟨_, _, h⟩
  | bsl e ps => obtain ⟨v, h⟩ := rc_closed h; exact ⟨_, _, h.2⟩
  | slc x lo hi mx e =>
    obtain ⟨v1, h⟩ := rc_ung h
    obtain ⟨_, h⟩ := rc_opt h
    obtain ⟨_, h⟩ := rc_opt h
    obtain ⟨_, h⟩ := rc_opt h
    split at h
    · split at h <;> first | exact ⟨_, _, h.2.2.2⟩ | exact h.elim
    · exact ⟨_, _, h.2.2⟩
    · exact ⟨_, _, h.2⟩
    · exact h.elim
  | ssl x lo hi =>
    obtain ⟨v1, h⟩ := rc_ung h
    obtain ⟨_, h⟩ := rc_opt h
    obtain ⟨_, h⟩ := rc_opt h
    split at h <;> first | exact ⟨_, _, h.2⟩ | exact h.elim
  | app x y e b s =>
    simp only [opW] at h
    obtain ⟨ys, h⟩ := rc_elems h
    split at h
    · exact ⟨_, _, h.2⟩
    · split at h <;> first | exact ⟨_, _, h.2⟩ | exact h.elim
    · exact h.elim
  | call f as =>
    simp only [opW] at h
    split at h
    · obtain ⟨_, _, _, _, h⟩ := rc_args _ _ _ _ _ h
      obtain ⟨out, _, _, _, _, h⟩ := h
      exact ⟨_, _, h⟩
    · exact h.elim
  | beq x y =>
    obtain ⟨v1, h⟩ := rc_ung h
    obtain ⟨v2, h⟩ := rc_ung h
    split at h <;> first | exact ⟨_, _, h⟩ | exact h.elim
  | bne x y =>
    obtain ⟨v1, h⟩ := rc_ung h
    obtain ⟨v2, h⟩ := rc_ung h
    split at h <;> first | exact ⟨_, _, h⟩ | exact h.elim
  | mks n z => exact ⟨_, _, h.2⟩
  | isnil x neg =>
    obtain ⟨v1, h⟩ := rc_ung h
    split at h
    · exact ⟨_, _, h⟩
    · exact ⟨_, _, h.2⟩
    · split at h <;> first | exact ⟨_, _, h.2⟩ | exact h.elim
    · exact h.elim

def chkIOp (P : Program) (n : Nat) (ops : Array Oper) (o : Oper) (i : IOp) : Bool :=
  (o.dst == i.d) && (match i.d with | some d => decide (d < n) | none => true) &&
  (match o.guard with
    | none => i.g.isNone
    | some (j, w) =>
      match i.g with
      | some (t, w') => ((ops[j]?).bind (·.dst) == some t) && (w == w')
      | none => false) && chkOp P o.op i.io

theorem flat_avr {b : Bool} {v : AV} {x : Value} (h : AVR ι H S w (.grd b v) x) : AVR ι H S w (flat b v) x := by
  cases v <;> try exact h
  rename_i b' v'
  cases h with
  | grd _ _ _ h1 h2 =>
    refine .grd _ _ _ (fun hb => ?_) (fun hb => ?_)
    · simp at hb
      cases h1 hb.1 with
      | grd _ _ _ h3 h4 => exact h3 hb.2
    · cases b with
      | false => exact h2 rfl
      | true =>
        simp at hb
        cases h1 rfl with
        | grd _ _ _ h3 h4 => exact h4 hb

/-- What a step does to slots and blocks. -/
theorem step_sound (h : R C ι S σ H a w) {ops : Array Oper} {i : IOp} {K : AV → List (Nat × LObj) → Prop} (hc : chkIOp P C.n ops o i = true) (hw : stepW P σ H i K) {N : Act → World → Prop} {Q : Exit → Act → World → Prop}
    (hN : ∀ av ws ι' S' w' v, K av ws → R C ι' S' σ (LH.sets H ws) a w' → AVR ι' (LH.sets H ws) S' w' av v → N (a.put o.dst v) w') :
    (Region.wanted o (yielded ops a.tmps) = true → o.wp P a w N Q) ∧ (Region.wanted o (yielded ops a.tmps) = false → N (a.put o.dst undef) w) := by
  simp only [chkIOp, Bool.and_eq_true, beq_iff_eq] at hc
  obtain ⟨⟨⟨hd, hlt⟩, hgd⟩, hop⟩ := hc
  unfold stepW at hw
  split at hw
  · rename_i hg
    have hno : o.guard = none := by
      cases hgu : o.guard with
      | none => rfl
      | some jw => rw [hgu] at hgd; obtain ⟨j, w1⟩ := jw; simp [hg] at hgd
    refine ⟨fun _ => op_sound h hop hw trivial hN, fun hf => ?_⟩
    simp [Region.wanted, hno] at hf
  · rename_i t want hg
    have hgu : ∃ j, o.guard = some (j, want) ∧ (ops[j]?).bind (·.dst) = some t := by
      cases hgu : o.guard with
      | none => rw [hgu] at hgd; simp [hg] at hgd
      | some jw =>
        obtain ⟨j, w1⟩ := jw
        rw [hgu] at hgd
        simp only [hg, Bool.and_eq_true, beq_iff_eq] at hgd
        exact ⟨j, by rw [hgd.2], hgd.1⟩
    obtain ⟨j, hgu, hj⟩ := hgu
    have hy : yielded ops a.tmps j = match a.tmps[t]? with | some (.bool b) => some b | _ => none := by
      unfold yielded
      rw [hj]
      rfl
    have hsl := h.sl t
    have main : ∀ (b : Bool), (b = true → a.tmps.getD t Go.undef = .bool want) → (b = false → ∀ c, a.tmps[t]? = some (.bool c) → c ≠ want) →
        ((opW P (b = true) σ H i.u i.io fun v ws => ws = [] ∧ K (flat b v) []) ∨ (b = false ∧ ∃ v, K (flat b v) [])) →
        (Region.wanted o (yielded ops a.tmps) = true → o.wp P a w N Q) ∧ (Region.wanted o (yielded ops a.tmps) = false → N (a.put o.dst undef) w) := by
      intro b hb1 hb2 hopw
      cases b with
      | true =>
        have hv := hb1 rfl
        have ht : a.tmps[t]? = some (.bool want) := by
          rw [Array.getD_eq_getD_getElem?] at hv
          cases hx : a.tmps[t]? with
          | none => rw [hx] at hv; simp [Go.undef] at hv
          | some x => rw [hx] at hv; simp at hv; rw [hv]
        have hwant : Region.wanted o (yielded ops a.tmps) = true := by
          simp [Region.wanted, hgu, hy, ht]
        have hopw := hopw.resolve_right (fun hx => by cases hx.1)
        refine ⟨fun _ => op_sound h hop hopw rfl (fun av ws ι' S' w' v hk hR hv => ?_), fun hf => by rw [hwant] at hf; cases hf⟩
        obtain ⟨rfl, hk⟩ := hk
        exact hN _ _ ι' S' w' v hk hR (flat_avr (.grd _ _ _ (fun _ => hv) (fun hf => by cases hf)))
      | false =>
        have hb2 := hb2 rfl
        have hwant : Region.wanted o (yielded ops a.tmps) = false := by
          simp only [Region.wanted, hgu, hy]
          cases hx : a.tmps[t]? with
          | none => simp
          | some x =>
            cases x with
            | bool c =>
              have := hb2 c hx
              simp [this]
            | _ => simp
        refine ⟨fun hf => (by rw [hwant] at hf; cases hf), fun _ => ?_⟩
        have hkk : ∃ av, K (flat false av) [] := by
          rcases hopw with hopw | ⟨_, hx⟩
          · obtain ⟨av, ws, rfl, hk⟩ := rc_op hopw; exact ⟨av, hk⟩
          · exact hx
        obtain ⟨av, hk⟩ := hkk
        exact hN _ _ ι S w _ hk h (flat_avr (.grd _ _ _ (fun hf => by cases hf) (fun _ => rfl)))
    split at hw
    · rename_i b hs
      rw [hs] at hsl
      have hv := avr_bool (v := .c (.bool b)) hsl
      refine main (b == want) (fun hb => by rw [hv]; simp at hb; rw [hb]) (fun hb c hc => ?_) hw
      have : a.tmps.getD t Go.undef = .bool c := by rw [Array.getD_eq_getD_getElem?, hc]; rfl
      rw [hv] at this
      simp at this hb
      rw [← this]; exact hb
    · rename_i b' b hs
      rw [hs] at hsl
      cases hsl with
      | grd _ _ _ h1 h2 =>
        refine main (b' && (b == want)) (fun hb => ?_) (fun hb c hc => ?_) hw
        · simp at hb
          rw [avr_bool (v := .c (.bool b)) (h1 hb.1), hb.2]
        · have he : a.tmps.getD t Go.undef = .bool c := by rw [Array.getD_eq_getD_getElem?, hc]; rfl
          cases b' with
          | false => rw [h2 rfl] at he; simp [Go.undef] at he
          | true =>
            rw [avr_bool (v := .c (.bool b)) (h1 rfl)] at he
            simp at he hb
            rw [← he]; exact hb
    · exact hw.elim

def chkOps (P : Program) (n : Nat) (ops : Array Oper) : List Oper → List IOp → Bool
  | [], [] => true
  | o :: l, i :: l' => chkIOp P n ops o i && chkOps P n ops l l'
  | _, _ => false

/-- The first operations of a region, in the order of the text; behind them the rest. -/
theorem opsP_sound {ops : Array Oper} {Q : Exit → Act → World → Prop} {l2 : List Oper} : ∀ (l : List Oper) (l' : List IOp) {ι : Nat → Loc} {S : Nat → Prop} {σ : Slots} {H : LH} {a : Act} {w : World} {K : Slots → LH → Prop},
    chkOps P C.n ops l l' = true → R C ι S σ H a w → opsW P l' σ H K → (∀ ι S σ H a w, K σ H → R C ι S σ H a w → wpList P ops Q l2 a w) → wpList P ops Q (l ++ l2) a w
  | [], [], ι, S, σ, H, a, w, K, _, h, hw, hq => hq ι S σ H a w hw h
  | o :: l, i :: l', ι, S, σ, H, a, w, K, hc, h, hw, hq => by
    simp only [chkOps, Bool.and_eq_true] at hc
    have hst := step_sound (Q := Q) h hc.1 hw (N := wpList P ops Q (l ++ l2)) (fun av ws ι' S' w' v hk hR hv => by
      have hi := hc.1
      simp only [chkIOp, Bool.and_eq_true, beq_iff_eq] at hi
      have hd : o.dst = i.d := hi.1.1.1
      refine opsP_sound l l' hc.2 (hR.put (d := o.dst) hv (fun k hk1 => ?_)) (by rw [hd]; exact hk) hq
      have := hi.1.1.2
      rw [hd] at hk1
      rw [hk1] at this
      simpa using this)
    rw [List.cons_append]
    unfold wpList
    by_cases hwant : Region.wanted o (yielded ops a.tmps) = true
    · rw [if_pos hwant]; exact .inl (hst.1 hwant)
    · rw [if_neg hwant]; exact hst.2 (by simpa using hwant)
  | [], _ :: _, _, _, _, _, _, _, _, hc, _, _, _ => by cases hc
  | _ :: _, [], _, _, _, _, _, _, _, hc, _, _, _ => by cases hc

def chkOpsC (P : Program) (n : Nat) (ops : Array Oper) : List Oper → List IOp → IOp → Bool
  | [o], [], j => chkIOp P n ops o j
  | o :: l, i :: l', j => chkIOp P n ops o i && chkOpsC P n ops l l' j
  | _, _, _ => false

/-- A region in the order of the text. -/
theorem ops_sound {ops : Array Oper} {Q : Exit → Act → World → Prop} : ∀ (l : List Oper) (l' : List IOp) {ι : Nat → Loc} {S : Nat → Prop} {σ : Slots} {H : LH} {a : Act} {w : World} {K : Slots → LH → Prop},
    chkOps P C.n ops l l' = true → R C ι S σ H a w → opsW P l' σ H K → (∀ ι S σ H a w, K σ H → R C ι S σ H a w → Q .normal a w) → wpList P ops Q l a w
  | [], [], ι, S, σ, H, a, w, K, _, h, hw, hq => hq ι S σ H a w hw h
  | o :: l, i :: l', ι, S, σ, H, a, w, K, hc, h, hw, hq => by
    simp only [chkOps, Bool.and_eq_true] at hc
    have hst := step_sound (Q := Q) h hc.1 hw (N := wpList P ops Q l) (fun av ws ι' S' w' v hk hR hv => by
      have hi := hc.1
      simp only [chkIOp, Bool.and_eq_true, beq_iff_eq] at hi
      have hd : o.dst = i.d := hi.1.1.1
      refine ops_sound l l' hc.2 (hR.put (d := o.dst) hv (fun k hk1 => ?_)) (by rw [hd]; exact hk) hq
      have := hi.1.1.2
      rw [hd] at hk1
      rw [hk1] at this
      simpa using this)
    unfold wpList
    by_cases hwant : Region.wanted o (yielded ops a.tmps) = true
    · rw [if_pos hwant]; exact .inl (hst.1 hwant)
    · rw [if_neg hwant]; exact hst.2 (by simpa using hwant)
  | [], _ :: _, _, _, _, _, _, _, _, hc, _, _, _ => by cases hc
  | _ :: _, [], _, _, _, _, _, _, _, hc, _, _, _ => by cases hc

/-- A call at a region's end, that returns or gives up. -/
def callX (P : Program) (σ : List (Nat × AV)) (H : List (Nat × LObj)) (u : Nat) (f : Opd) (as : List (Opd × Mode)) (K : AV → List (Nat × LObj) → Prop) (F : TypeId → IntKind → Int → LH → Prop) : Prop :=
  opW P True σ H u (.call f as) K ∨ ∃ f', val σ f = .c (.fn f') ∧ argsW True argBase H (as.map fun x => (val σ x.1, x.2)) 0 fun args m V H' => (∀ i ∈ V, isLive H' i) ∧ ∃ t k n, CWp P f' args t k n ∧ F t k n H'

theorem opsC_sound {ops : Array Oper} {Q : Exit → Act → World → Prop} {d : Option Nat} {u : Nat} {f : Opd} {as : List (Opd × Mode)} : ∀ (l : List Oper) (l' : List IOp) {ι : Nat → Loc} {S : Nat → Prop} {σ : Slots} {H : LH} {a : Act} {w : World} {K : Slots → LH → Prop} {F : TypeId → IntKind → Int → Slots → LH → Prop},
    chkOpsC P C.n ops l l' ⟨d, u, none, .call f as⟩ = true → R C ι S σ H a w → (opsW P l' σ H fun σ H => callX P σ H u f as (fun v ws => K (Slots.put σ d v) (LH.sets H ws)) fun t k n H' => F t k n σ H') →
    (∀ ι S σ H a w, K σ H → R C ι S σ H a w → Q .normal a w) → (∀ t k n ι S σ H a w, F t k n σ H → R C ι S σ H a w → Q (.panic [{ v := .iface t (.int k n), recovered := false }]) a w) → wpList P ops Q l a w
  | [o], [], ι, S, σ, H, a, w, K, F, hc, h, hw, hq, hp => by
    have hc' : chkIOp P C.n ops o ⟨d, u, none, .call f as⟩ = true := hc
    have hno : o.guard = none := by
      simp only [chkIOp, Bool.and_eq_true] at hc'
      cases hgu : o.guard with
      | none => rfl
      | some jw => rw [hgu] at hc'; obtain ⟨j, w1⟩ := jw; simp at hc'
    have hd : o.dst = d := by simp only [chkIOp, Bool.and_eq_true, beq_iff_eq] at hc'; exact hc'.1.1.1
    have hlt : ∀ k, d = some k → k < C.n := fun k hk => by
      simp only [chkIOp, Bool.and_eq_true, beq_iff_eq] at hc'
      have := hc'.1.1.2
      subst hk
      simpa using this
    have hwant : Region.wanted o (yielded ops a.tmps) = true := by simp [Region.wanted, hno]
    unfold wpList
    rw [if_pos hwant]
    left
    rcases hw with hw | ⟨f', hf, hw⟩
    · have hop : chkOp P o.op (.call f as) = true := by simp only [chkIOp, Bool.and_eq_true] at hc'; exact hc'.2
      refine op_sound (u := u) h hop hw trivial (fun av ws ι' S' w' v hk hR hv => ?_)
      rw [wpList]
      rw [hd]
      exact hq _ _ _ _ _ _ hk (hR.put (d := d) hv hlt)
    · have hop : chkOp P o.op (.call f as) = true := by simp only [chkIOp, Bool.and_eq_true] at hc'; exact hc'.2
      unfold chkOp at hop
      simp only at hop
      split at hop
      case h_2 => cases hop
      rename_i c e
      split at hop
      case h_2 => cases hop
      rename_i fo e2
      simp only [Bool.and_eq_true] at hop
      obtain ⟨cl, ca, ct⟩ := c
      simp only at e2 hop
      subst e2
      exact wp_callp h e hop.1 hf hop.2 hw (fun t k n H' w' hF hR => hp t k n _ _ σ H' a w' hF hR)
  | o :: l, i :: l', ι, S, σ, H, a, w, K, F, hc, h, hw, hq, hp => by
    have hc' : (chkIOp P C.n ops o i && chkOpsC P C.n ops l l' ⟨d, u, none, .call f as⟩) = true := by
      cases l with
      | nil => exact hc
      | cons => exact hc
    simp only [Bool.and_eq_true] at hc'
    have hst := step_sound (Q := Q) h hc'.1 hw (N := wpList P ops Q l) (fun av ws ι' S' w' v hk hR hv => by
      have hi := hc'.1
      simp only [chkIOp, Bool.and_eq_true, beq_iff_eq] at hi
      have hd : o.dst = i.d := hi.1.1.1
      refine opsC_sound l l' hc'.2 (hR.put (d := o.dst) hv (fun k hk1 => ?_)) (by rw [hd]; exact hk) hq hp
      have := hi.1.1.2
      rw [hd] at hk1
      rw [hk1] at this
      simpa using this)
    unfold wpList
    by_cases hwant : Region.wanted o (yielded ops a.tmps) = true
    · rw [if_pos hwant]; exact .inl (hst.1 hwant)
    · rw [if_neg hwant]; exact hst.2 (by simpa using hwant)
  | [], [], _, _, _, _, _, _, _, _, hc, _, _, _, _ => by cases hc
  | [], _ :: _, _, _, _, _, _, _, _, _, hc, _, _, _, _ => by cases hc
  | _ :: _ :: _, [], _, _, _, _, _, _, _, _, hc, _, _, _, _ => by cases hc

end
end Go.Proofs.Ytcpdnpaedkcebaa.V
