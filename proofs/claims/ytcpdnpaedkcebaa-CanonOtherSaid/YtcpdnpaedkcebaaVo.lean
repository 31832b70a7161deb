/- A small calculus over the model, fifteen: code, loops, functions. -/
import Derived.Test.YtcpdnpaedkcebaaVr
namespace Go.Proofs.Ytcpdnpaedkcebaa.V
open Go Go.RowKit
set_option linter.unusedVariables false
set_option linter.unusedSimpArgs false

inductive Ex where
  | norm
  | exit (id : Nat)
  | ret
  | pan (t : TypeId) (k : IntKind) (n : Int)

inductive IC where
  | skip
  | reg (ops : List IOp)
  | draw (t : DT)
  | seq (a b : IC)
  | cond (x : Opd) (a b : IC)
  | block (id : Nat) (a : IC)
  | loop (n : Norm) (a : IC)
  | exit (id : Nat)
  | ret
  | keep (n : Norm) (a : IC)
  | pub (t : Nat) (a : IC)
  | pubc (t k : Nat) (a : IC)
  | trunc (t k u : Nat) (a : IC)
  | loop0 (ts : List Nat) (a : IC)
  | pan (t : TypeId) (k : IntKind) (n : Int)
  | regc (ops : List IOp) (d : Option Nat) (u : Nat) (f : Opd) (as : List (Opd × Mode))

/-- The row in a slot is no longer written. -/
def pubW (H : LH) (v : AV) (K : LH → Prop) : Prop :=
  match v with
  | .osl i _ _ =>
    match LH.get H i with
    | some (.row e xs) => K (LH.set H i (.vrow e xs))
    | _ => False
  | _ => False
/-- The row in a cell of a variable is no longer written, and stands there as a closed value. -/
def pubcW (H : LH) (v : AV) (k : Nat) (K : LH → Prop) : Prop :=
  match v with
  | .ref i _ =>
    match LH.get H i with
    | some (.obj cs) =>
      match cs.getD k (.c .undef) with
      | .osl r off len =>
        match LH.get H r with
        | some (.row e xs) => (k < cs.length ∧ r ≠ i) ∧ K (LH.set (LH.set H r (.vrow e xs)) i (.obj (cs.set k (.c (.sl e ((xs.drop off).take len))))))
        | _ => False
      | _ => False
    | _ => False
  | _ => False

/-- The row in a cell of a variable, cut to what is shown of it. -/
def truncW (H : LH) (v : AV) (k u : Nat) (K : LH → Prop) : Prop :=
  match v with
  | .ref i _ =>
    match LH.get H i with
    | some (.obj cs) =>
      match cs.getD k (.c .undef) with
      | .osl r off len =>
        match LH.get H r with
        | some (.row e xs) => (k < cs.length ∧ r ≠ i ∧ off = 0 ∧ fresh H u) ∧ K (LH.set (LH.set (LH.set H r .dead) (64 * u) (.row e (xs.take len))) i (.obj (cs.set k (.osl (64 * u) 0 len))))
        | _ => False
      | .c .nilsl => K H
      | _ => False
    | _ => False
  | _ => False

/-- Behind a test what was tested is known. -/
def setB (σ : Slots) (x : Opd) (b : Bool) : Slots :=
  match x with
  | .t n => Slots.set σ n (.c (.bool b))
  | .c _ => σ
theorem R.setB {C : Ctx} {ι : Nat → Loc} {S : Nat → Prop} {σ : Slots} {H : LH} {a : Act} {w : World} (h : R C ι S σ H a w) {x : Opd} {b : Bool} (hx : val σ x = .c (.bool b)) : R C ι S (V.setB σ x b) H a w := by
  cases x with
  | c v => exact h
  | t n =>
    refine h.slots fun t => ?_
    simp only [V.setB, Slots.get_set]
    by_cases e : t = n
    · subst e; rw [if_pos rfl]; exact hx
    · rw [if_neg e]

def LoopW (B : (Ex → Slots → LH → Prop) → Slots → LH → Prop) (n : Norm) (Q : Ex → Slots → LH → Prop) (σ : Slots) (H : LH) : Prop :=
  ∀ X : Slots → LH → Prop, (∀ σ H, B (fun e σ' H' => match e with | .norm => normW n σ' H' X | e => Q e σ' H') σ H → X σ H) → normW n σ H X

/-- Only these slots. -/
def keepS (σ : Slots) : List Nat → Slots
  | [] => []
  | t :: ts => (t, Slots.get σ t) :: keepS σ ts
theorem keepS_get (σ : Slots) (ts : List Nat) (t : Nat) : Slots.get (keepS σ ts) t = Slots.get σ t ∨ Slots.get (keepS σ ts) t = .c .undef := by
  induction ts with
  | nil => exact .inr rfl
  | cons x ts ih =>
    simp only [keepS, Slots.get]
    by_cases e : x = t
    · rw [if_pos e, e]; exact .inl rfl
    · rw [if_neg e]; exact ih
theorem R.keepS {C : Ctx} {ι : Nat → Loc} {S : Nat → Prop} {σ : Slots} {H : LH} {a : Act} {w : World} (h : R C ι S σ H a w) (ts : List Nat) : R C ι S (V.keepS σ ts) H a w :=
  ⟨h.fr, h.hr, fun t => (keepS_get σ ts t).elim (fun e => by rw [e]; exact h.sl t) (fun e => by rw [e]; exact AVR.undef _), h.own, h.sup, h.sub, h.loc, h.size, h.defs⟩
/-- A loop that leaves all where it is, but for slots. -/
def LoopZ (B : (Ex → Slots → LH → Prop) → Slots → LH → Prop) (ts : List Nat) (Q : Ex → Slots → LH → Prop) (σ : Slots) (H : LH) : Prop :=
  ∀ X : Slots → LH → Prop, (∀ σ H, B (fun e σ' H' => match e with | .norm => X (keepS σ' ts) H' | e => Q e σ' H') σ H → X σ H) → X (keepS σ ts) H

def wpC (P : Program) : IC → (Ex → Slots → LH → Prop) → Slots → LH → Prop
  | .skip, Q, σ, H => Q .norm σ H
  | .reg ops, Q, σ, H => opsW P ops σ H fun σ H => Q .norm σ H
  | .draw t, Q, σ, H => drawW P (fun σ H => Q .norm σ H) t [] σ H
  | .seq a b, Q, σ, H => wpC P a (fun e σ H => match e with | .norm => wpC P b Q σ H | e => Q e σ H) σ H
  | .cond x a b, Q, σ, H =>
    match val σ x with
    | .c (.bool t) => (t = true → wpC P a Q (setB σ x true) H) ∧ (t = false → wpC P b Q (setB σ x false) H)
    | _ => False
  | .block id a, Q, σ, H => wpC P a (fun e σ H => match e with | .exit i => if i = id then Q .norm σ H else Q (.exit i) σ H | e => Q e σ H) σ H
  | .loop n a, Q, σ, H => LoopW (wpC P a) n Q σ H
  | .exit id, Q, σ, H => Q (.exit id) σ H
  | .ret, Q, σ, H => Q .ret σ H
  | .keep n a, Q, σ, H => normW n σ H fun σ H => wpC P a Q σ H
  | .pub t a, Q, σ, H => pubW H (Slots.get σ t) fun H => wpC P a Q σ H
  | .pubc t k a, Q, σ, H => pubcW H (Slots.get σ t) k fun H => wpC P a Q σ H
  | .trunc t k u a, Q, σ, H => wpC P a (fun e σ H => match e with | .norm => truncW H (Slots.get σ t) k u (fun H => Q .norm σ H) | e => Q e σ H) σ H
  | .loop0 ts a, Q, σ, H => LoopZ (wpC P a) ts Q σ H
  | .pan t k n, Q, _, H => Q (.pan t k n) [] H
  | .regc ops d u f as, Q, σ, H => opsW P ops σ H fun σ H => callX P σ H u f as (fun v ws => Q .norm (Slots.put σ d v) (LH.sets H ws)) fun t k n H' => Q (.pan t k n) σ H'

def chkPan (t : TypeId) (k : IntKind) (n : Int) : List Oper → Bool
  | [o, o'] =>
    (match o.op, o.dst, o.guard with
     | .makeInterface t' (.const (.int k' n')), some d, none => decide (t' = t) && decide (k' = k) && decide (n' = n) &&
       (match o'.op, o'.guard with
        | .panic (.tmp d'), none => decide (d' = d)
        | _, _ => false)
     | _, _, _ => false)
  | _ => false
def dstLt (n : Nat) : List Oper → Bool
  | [] => true
  | o :: l => (match o.dst with | some d => decide (d < n) | none => true) && dstLt n l
def notIface (P : Program) (t : TypeId) : Bool :=
  match P.underlying t with
  | some (.interface _) => false
  | some _ => true
  | none => false

def chkC (P : Program) (n : Nat) : IC → Code → Bool
  | .keep _ a, c => chkC P n a c
  | .pub _ a, c => chkC P n a c
  | .pubc _ _ a, c => chkC P n a c
  | .trunc _ _ _ a, c => chkC P n a c
  | .pan t k m, .region _ ops false => chkPan t k m ops.toList && dstLt n ops.toList && notIface P t
  | .regc ops' d u f as, .region _ ops false => chkOpsC P n ops ops.toList ops' ⟨d, u, none, .call f as⟩
  | .skip, .skip => true
  | .draw t, .region _ ops true => chkDraw P n ops t
  | .reg ops', .region _ ops false => chkOps P n ops ops.toList ops'
  | .seq a b, .seq c d => chkC P n a c && chkC P n b d
  | .cond x a b, .cond y c d => chkOpd y x && chkC P n a c && chkC P n b d
  | .block id a, .block id' c => id == id' && chkC P n a c
  | .loop _ a, .loop c => chkC P n a c
  | .loop0 _ a, .loop c => chkC P n a c
  | .exit id, .exit id' => id == id'
  | .ret, .ret => true
  | _, _ => false

def Ex.cvt : Ex → Exit
  | .norm => .normal
  | .exit id => .exit id
  | .ret => .ret
  | .pan t k n => .panic [{ v := .iface t (.int k n), recovered := false }]

/-- From the head of a loop on. -/
def LoopFrom (P : Program) (c : Code) (Q : Exit → Act → World → Prop) (a : Act) (w : World) : Prop :=
  ∀ (b : Frame) (k : List Item) (cs : List Frame), ∃ e a' w', Q e a' w' ∧ Arrives P (lone (b.at a (.code c :: .inLoop c :: k)) cs w) b k cs e a' w'

theorem LoopFrom.loop {P : Program} {c : Code} {Q : Exit → Act → World → Prop} {a : Act} {w : World} (h : LoopFrom P c Q a w) : (Code.loop c).wp P Q a w := by
  intro b k cs
  obtain ⟨e, a', w', hq, harr⟩ := h b k cs
  exact ⟨e, a', w', hq, .of_steps (.one step_loop) harr⟩

theorem LoopFrom.round {P : Program} {c : Code} {Q : Exit → Act → World → Prop} {a : Act} {w : World}
    (h : c.wp P (fun e a w => match e with | .normal => LoopFrom P c Q a w | e => Q e a w) a w) : LoopFrom P c Q a w := by
  intro b k cs
  obtain ⟨e, a₁, w₁, hq, harr⟩ := h b (.inLoop c :: k) cs
  cases e with
  | normal =>
    obtain ⟨e₂, a₂, w₂, hq₂, harr₂⟩ := hq b k cs
    exact ⟨e₂, a₂, w₂, hq₂, .of_steps (Steps.trans harr (.one step_inLoop)) harr₂⟩
  | exit id => exact ⟨_, a₁, w₁, hq, .pass (x := .inLoop c) rfl (fun _ _ => .inl (by simp)) harr⟩
  | goto l => exact ⟨_, a₁, w₁, hq, .pass (x := .inLoop c) rfl (fun _ _ => .inl (by simp)) harr⟩
  | ret => exact ⟨_, a₁, w₁, hq, .pass (x := .inLoop c) rfl (fun _ _ => .inl (by simp)) harr⟩
  | panic ch => exact ⟨_, a₁, w₁, hq, .pass (x := .inLoop c) rfl (fun _ _ => .inl (by simp)) harr⟩
  | outgrown => exact ⟨_, a₁, w₁, hq, .pass (x := .inLoop c) rfl (fun _ _ => .inl (by simp)) harr⟩

section
variable {P : Program} {C : Ctx}

/-- What stands where a way ends. -/
def RE (C : Ctx) (ι : Nat → Loc) (S : Nat → Prop) (e : Ex) (σ : Slots) (H : LH) (a : Act) (w : World) : Prop :=
  R C ι S σ H a w

theorem pan_sound {ops : Array Oper} {Q : Exit → Act → World → Prop} {t : TypeId} {k : IntKind} {n : Int} {ι : Nat → Loc} {S : Nat → Prop} {σ : Slots} {H : LH} {a : Act} {w : World}
    (h : R C ι S σ H a w) (hi : notIface P t = true) (hd : dstLt C.n ops.toList = true) (hc : chkPan t k n ops.toList = true) (hq : ∀ a, R C ι S [] H a w → Q (.panic [{ v := .iface t (.int k n), recovered := false }]) a w) : wpList P ops Q ops.toList a w := by
  generalize ops.toList = l at hc hd
  unfold chkPan at hc
  split at hc
  case h_2 => cases hc
  rename_i o o'
  split at hc
  case h_2 => cases hc
  rename_i t' k' n' d e1 e2 e3
  simp only [Bool.and_eq_true, decide_eq_true_eq] at hc
  obtain ⟨⟨⟨rfl, rfl⟩, rfl⟩, hc⟩ := hc
  split at hc
  case h_2 => cases hc
  rename_i d' e4 e5
  have : d' = d := by simpa using hc
  subst this
  simp only [dstLt, e2, Bool.and_eq_true, decide_eq_true_eq] at hd
  have hlt : d' < a.tmps.size := by rw [h.size]; exact hd.1
  unfold notIface at hi
  have hund : ∃ dsc, P.underlying t' = some dsc ∧ ∀ ms, dsc ≠ .interface ms := by
    split at hi
    · cases hi
    · rename_i dsc hne hds
      exact ⟨dsc, hds, fun ms e => hne ms e⟩
    · cases hi
  obtain ⟨dsc, hds, hni⟩ := hund
  have w1 : ∀ ys, Region.wanted o ys = true := fun ys => by simp [Region.wanted, e3]
  have w2 : ∀ ys, Region.wanted o' ys = true := fun ys => by simp [Region.wanted, e5]
  unfold wpList
  rw [if_pos (w1 _)]
  left
  unfold Oper.wp
  have r1 : (execOp a.eval o).run P w = .ok (.value (.iface t' (.int k' n'))) w := by
    simp only [execOp, e1]
    refine runV ?_
    show (Instr.makeInterface t' (.int k' n')).run P w = _
    simp only [Instr.makeInterface, Sem.run_bind, run_underlying hds, Result.andThen_ok]
    cases dsc <;> first | rfl | exact absurd rfl (hni _)
  rw [r1, Oper.upon_value]
  unfold wpList
  rw [if_pos (w2 _)]
  left
  unfold Oper.wp
  have ev1 : (a.put o.dst (.iface t' (.int k' n'))).eval (.tmp d') = .iface t' (.int k' n') := by
    simp [Act.eval, Act.put, e2, hlt]
  have r2 : (execOp (a.put o.dst (.iface t' (.int k' n'))).eval o').run P w = .halt (.panic (.iface t' (.int k' n'))) w := by
    simp only [execOp, e4, ev1]
    rfl
  rw [r2]
  rw [e2]
  exact hq _ ⟨h.fr, h.hr, fun t => AVR.undef _, h.own, h.sup, h.sub, h.loc, by simp [Act.put, h.size], h.defs⟩

theorem RowR.take {L : Loc} {S : Nat → Prop} {w : World} {e : Nat} {xs : List CV} (h : RowR L S w e xs) (n : Nat) : RowR L S w e (xs.take n) := by
  unfold RowR at h ⊢
  split
  · rename_i hn
    rw [if_pos hn] at h
    rw [h]; simp
  · rename_i hn
    rw [if_neg hn] at h
    obtain ⟨h1, h2, h3, h4⟩ := h
    refine ⟨?_, fun x hx => h2 x (List.mem_of_mem_take hx), h3, fun i j hi hj => ?_⟩
    · rw [List.length_take]; omega
    · rw [List.length_take] at hi
      have e1 : (xs.take n).getD i .undef = xs.getD i .undef := by
        simp [List.getD_eq_getElem?_getD, List.getElem?_take, show i < n by omega]
      rw [e1]
      exact h4 i j (by omega) hj

theorem trunc_sound {ι : Nat → Loc} {S : Nat → Prop} {σ : Slots} {H : LH} {a : Act} {w : World} (h : R C ι S σ H a w) {v : AV} {k u : Nat} {K : LH → Prop} (hw : truncW H v k u K) : ∃ H' ι', K H' ∧ R C ι' S σ H' a w := by
  unfold truncW at hw
  split at hw
  case h_2 => exact hw.elim
  rename_i i off0
  split at hw
  case h_2 => exact hw.elim
  rename_i cs hgo
  split at hw
  case h_3 => exact hw.elim
  case h_2 => exact ⟨H, ι, hw, h⟩
  rename_i r off len hcell
  split at hw
  case h_2 => exact hw.elim
  rename_i e xs hg
  obtain ⟨⟨hk, hri, rfl, hf⟩, hK⟩ := hw
  obtain ⟨hn, hlt⟩ := fresh_none hf (k := 0) (by omega)
  rw [Nat.add_zero] at hn hlt
  have hrow := h.hr.row _ _ _ hg
  have hobj := h.hr.obj _ _ hgo
  obtain ⟨x0, hx0, _, hv0⟩ := hobj k hk
  rw [hcell] at hv0
  obtain ⟨hle, hsl⟩ := oslOK_row (avr_osl hv0) (.inl hg)
  have hR : R C (updL ι (64 * u) (ι r)) S σ (LH.set (LH.set H r .dead) (64 * u) (.row e (xs.take len))) a w := by
    refine h.move hg hn hlt (ι r) default ?_ rfl rfl rfl ?_
    · by_cases hnl : (ι r).isnil = true
      · exact .inr (.inr ⟨hnl, rfl⟩)
      · have : (ι r).isnil = false := by simpa using hnl
        exact .inl ⟨this, this, rfl, fun _ _ => rfl, rfl⟩
    · unfold NewAt
      rw [LH.get_set, if_pos rfl, updL_same]
      exact hrow.take len
  have hiu : i ≠ 64 * u := fun e' => by rw [e', hn] at hgo; cases hgo
  have hgo' : LH.get (LH.set (LH.set H r .dead) (64 * u) (.row e (xs.take len))) i = some (.obj cs) := by
    rw [LH.get_set, if_neg hiu, LH.get_set, if_neg (Ne.symm hri)]; exact hgo
  have hgr : LH.get (LH.set (LH.set H r .dead) (64 * u) (.row e (xs.take len))) (64 * u) = some (.row e (xs.take len)) := by rw [LH.get_set, if_pos rfl]
  have hobj' := hR.hr.obj _ _ hgo'
  have hkp : Kept (updL ι (64 * u) (ι r)) (updL ι (64 * u) (ι r)) i (.obj cs) (.obj (cs.set k (.osl (64 * u) 0 len))) := ⟨rfl, by simp⟩
  refine ⟨_, _, hK, hR.write hgo' (by unfold Owned; rw [hgo']; trivial) hkp (by simp) (fun _ _ => rfl) rfl rfl rfl rfl ?_⟩
  unfold NewAt
  rw [LH.get_set, if_pos rfl]
  intro q hq
  simp only [List.length_set] at hq
  obtain ⟨x, hx, hfz, hxv⟩ := hobj' q hq
  refine ⟨x, hx, hfz, ?_⟩
  by_cases e1 : k = q
  · subst e1
    have : (cs.set k (.osl (64 * u) 0 len)).getD k (.c .undef) = .osl (64 * u) 0 len := by simp [List.getD_eq_getElem?_getD, hk]
    rw [this]
    have hxx : x = x0 := by
      rw [updL_ne ι (ι r) hiu] at hx
      rw [hx] at hx0
      injection hx0
    subst hxx
    refine .osl _ _ _ _ ?_
    unfold OslOK
    rw [LH.get_set, if_neg (Ne.symm hiu), hgr]
    refine ⟨by rw [List.length_take]; omega, ?_⟩
    rw [updL_same]
    exact hsl
  · rw [getD_set_ne _ e1]
    exact hxv.mono (fun _ _ _ hs hx => ⟨hs, hx⟩) (same_kept hgo' hkp)

theorem pub_sound {ι : Nat → Loc} {S : Nat → Prop} {σ : Slots} {H : LH} {a : Act} {w : World} (h : R C ι S σ H a w) {v : AV} {K : LH → Prop} (hw : pubW H v K) : ∃ H' S', K H' ∧ R C ι S' σ H' a w := by
  unfold pubW at hw
  split at hw
  · split at hw
    · rename_i e xs hg
      obtain ⟨S', hR⟩ := h.pub hg
      exact ⟨_, S', hw, hR⟩
    · exact hw.elim
  · exact hw.elim

theorem pubc_sound {ι : Nat → Loc} {S : Nat → Prop} {σ : Slots} {H : LH} {a : Act} {w : World} (h : R C ι S σ H a w) {v : AV} {k : Nat} {K : LH → Prop} (hw : pubcW H v k K) : ∃ H' S', K H' ∧ R C ι S' σ H' a w := by
  unfold pubcW at hw
  split at hw
  case h_2 => exact hw.elim
  rename_i i off0
  split at hw
  case h_2 => exact hw.elim
  rename_i cs hgo
  split at hw
  case h_2 => exact hw.elim
  rename_i r off len hcell
  split at hw
  case h_2 => exact hw.elim
  rename_i e xs hg
  obtain ⟨⟨hk, hri⟩, hK⟩ := hw
  obtain ⟨S', hR⟩ := h.pub hg
  refine ⟨_, S', hK, ?_⟩
  have hgo' : LH.get (LH.set H r (.vrow e xs)) i = some (.obj cs) := by rw [LH.get_set, if_neg (Ne.symm hri)]; exact hgo
  have hgr : LH.get (LH.set H r (.vrow e xs)) r = some (.vrow e xs) := by rw [LH.get_set, if_pos rfl]
  have hobj := hR.hr.obj _ _ hgo'
  have hkp : Kept ι ι i (.obj cs) (.obj (cs.set k (.c (.sl e ((xs.drop off).take len))))) := ⟨rfl, by simp⟩
  refine hR.write hgo' (by unfold Owned; rw [hgo']; trivial) hkp (by simp) (fun _ _ => rfl) rfl rfl rfl rfl ?_
  unfold NewAt
  rw [LH.get_set, if_pos rfl]
  intro q hq
  simp only [List.length_set] at hq
  obtain ⟨x, hx, hfz, hxv⟩ := hobj q hq
  refine ⟨x, hx, hfz, ?_⟩
  by_cases e1 : k = q
  · subst e1
    have : (cs.set k (.c (.sl e ((xs.drop off).take len)))).getD k (.c .undef) = .c (.sl e ((xs.drop off).take len)) := by simp [List.getD_eq_getElem?_getD, hk]
    rw [this]
    rw [hcell] at hxv
    obtain ⟨hle, hsl⟩ := oslOK_row (avr_osl hxv) (.inr hgr)
    have hvr := hR.hr.vrow _ _ _ hgr
    refine .c _ _ ?_
    have hlen : ((xs.drop off).take len).length = len := by simp; omega
    by_cases hp : 0 < len
    · obtain ⟨hn, ex⟩ := sliceAt_pos hsl hp
      unfold VRowR at hvr
      rw [if_neg (by simp [hn])] at hvr
      generalize hz : Value.slice (some ⟨(ι r).block, (ι r).off, none⟩) xs.length (ι r).cap = z at hvr
      cases hvr with
      | slnil => simp at hle; omega
      | sl _ _ b o cap us h1 h2 h3 h4 =>
        injection hz with z1 z2 z3
        injection z1 with z1
        injection z1 with zb zo _
        subst zb; subst zo; subst z3
        rw [ex]
        have key : VR w S' (.sl e ((xs.drop off).take len)) (.slice (some ⟨(ι r).block, (ι r).off + off * e, none⟩) ((xs.drop off).take len).length ((ι r).cap - off)) := by
          refine .sl e _ _ _ _ (fun p q => us (off + p) q) (by rw [hlen]; omega) (fun y hy => h2 y (List.mem_of_mem_drop (List.mem_of_mem_take hy))) (fun p q hp hq => ?_) (fun p q hp hq => ?_)
          · rw [hlen] at hp
            have := h3 (off + p) q (by omega) hq
            refine ⟨this.1, ?_⟩
            rw [← this.2]; congr 2; rw [Nat.add_mul]; omega
          · rw [hlen] at hp
            rw [getD_drop_take _ _ hp]
            exact h4 (off + p) q (by omega) hq
        rw [hlen] at key
        exact key
    · have : len = 0 := by omega
      subst this
      obtain ⟨p, c, ex⟩ := sliceLen hsl
      rw [ex, List.take_zero]
      exact .slnil _ _ _
  · rw [getD_set_ne _ e1]
    exact hxv.mono (fun _ _ _ hs hx => ⟨hs, hx⟩) (same_kept hgo' hkp)

theorem code_sound : ∀ (ic : IC) (c : Code) {ι : Nat → Loc} {S : Nat → Prop} {σ : Slots} {H : LH} {a : Act} {w : World} {Q : Ex → Slots → LH → Prop} {Qc : Exit → Act → World → Prop},
    chkC P C.n ic c = true → R C ι S σ H a w → wpC P ic Q σ H → (∀ e ι S σ H a w, Q e σ H → RE C ι S e σ H a w → Qc e.cvt a w) → c.wp P Qc a w := by
  intro ic
  induction ic with
  | skip =>
    intro c ι S σ H a w Q Qc hc h hw hq
    cases c <;> first | (simp [chkC] at hc; done) | exact wp_skip (hq .norm _ _ _ _ _ _ hw h)
  | reg ops' =>
    intro c ι S σ H a w Q Qc hc h hw hq
    cases c with
    | region id ops d =>
      cases d with
      | true => simp [chkC] at hc
      | false => exact wp_region_list (ops_sound _ _ hc h hw (fun ι S σ H a w hk hR => hq .norm _ _ _ _ _ _ hk hR))
    | _ => simp [chkC] at hc
  | draw t =>
    intro c ι S σ H a w Q Qc hc h hw hq
    cases c with
    | region id ops d =>
      cases d with
      | false => simp [chkC] at hc
      | true => exact draw_sound hc h hw (fun ι S σ H a w hk hR => hq .norm _ _ _ _ _ _ hk hR)
    | _ => simp [chkC] at hc
  | seq x y ihx ihy =>
    intro c ι S σ H a w Q Qc hc h hw hq
    cases c with
    | seq c d =>
      simp only [chkC, Bool.and_eq_true] at hc
      refine wp_seq (ihx c hc.1 h hw (fun e ι S σ H a w hk hR => ?_))
      cases e with
      | norm => exact ihy d hc.2 hR hk hq
      | exit i => exact hq (.exit i) _ _ _ _ _ _ hk hR
      | ret => exact hq .ret _ _ _ _ _ _ hk hR
      | pan t k n => exact hq (.pan t k n) _ _ _ _ _ _ hk hR
    | _ => simp [chkC] at hc
  | cond x p q ihp ihq =>
    intro c ι S σ H a w Q Qc hc h hw hq
    cases c with
    | cond y c d =>
      simp only [chkC, Bool.and_eq_true] at hc
      simp only [wpC] at hw
      have hv := ev h hc.1.1
      split at hw
      · rename_i t e
        rw [e] at hv
        exact wp_cond_split (avr_bool (v := .c (.bool t)) hv) (fun ht => ihp c hc.1.2 (h.setB (b := true) (by rw [e, ht])) (hw.1 ht) hq) (fun ht => ihq d hc.2 (h.setB (b := false) (by rw [e, ht])) (hw.2 ht) hq)
      · exact hw.elim
    | _ => simp [chkC] at hc
  | block id x ih =>
    intro c ι S σ H a w Q Qc hc h hw hq
    cases c with
    | block id' c =>
      simp only [chkC, Bool.and_eq_true, beq_iff_eq] at hc
      obtain ⟨rfl, hc⟩ := hc
      refine wp_block (ih c hc h hw (fun e ι S σ H a w hk hR => ?_))
      cases e with
      | norm => exact hq .norm _ _ _ _ _ _ hk hR
      | exit i =>
        simp only [Ex.cvt, Exit.inBlock]
        simp only at hk
        by_cases e : i = id
        · rw [if_pos e] at hk ⊢; exact hq .norm _ _ _ _ _ _ hk hR
        · rw [if_neg e] at hk ⊢; exact hq (.exit i) _ _ _ _ _ _ hk hR
      | ret => exact hq .ret _ _ _ _ _ _ hk hR
      | pan t k n => exact hq (.pan t k n) _ _ _ _ _ _ hk hR
    | _ => simp [chkC] at hc
  | loop n x ih =>
    intro c ι S σ H a w Q Qc hc h hw hq
    cases c with
    | loop c =>
      refine LoopFrom.loop ?_
      have := hw (fun σ H => ∀ ι S a w, R C ι S σ H a w → LoopFrom P c Qc a w) (fun σ H hB ι S a w hR => ?_)
      · obtain ⟨σ', H', ι', hX, hR⟩ := norm_sound h this
        exact hX _ _ _ _ hR
      · refine LoopFrom.round (ih c hc hR hB (fun e ι S σ H a w hk hR => ?_))
        cases e with
        | norm =>
          obtain ⟨σ', H', ι', hX, hR'⟩ := norm_sound hR hk
          exact hX _ _ _ _ hR'
        | exit i => exact hq (.exit i) _ _ _ _ _ _ hk hR
        | ret => exact hq .ret _ _ _ _ _ _ hk hR
        | pan t k n => exact hq (.pan t k n) _ _ _ _ _ _ hk hR
    | _ => simp [chkC] at hc
  | exit id =>
    intro c ι S σ H a w Q Qc hc h hw hq
    cases c with
    | exit id' =>
      have : id = id' := by simpa [chkC] using hc
      subst this
      exact wp_exit (hq (.exit id) _ _ _ _ _ _ hw h)
    | _ => simp [chkC] at hc
  | ret =>
    intro c ι S σ H a w Q Qc hc h hw hq
    cases c <;> first | (simp [chkC] at hc; done) | exact wp_ret (hq .ret _ _ _ _ _ _ hw h)
  | keep n x ih =>
    intro c ι S σ H a w Q Qc hc h hw hq
    obtain ⟨σ', H', ι', hk, hR⟩ := norm_sound h hw
    exact ih c (by simpa [chkC] using hc) hR hk hq
  | pub t x ih =>
    intro c ι S σ H a w Q Qc hc h hw hq
    obtain ⟨H', S', hk, hR⟩ := pub_sound h hw
    exact ih c (by simpa [chkC] using hc) hR hk hq
  | pubc t k x ih =>
    intro c ι S σ H a w Q Qc hc h hw hq
    obtain ⟨H', S', hk, hR⟩ := pubc_sound h hw
    exact ih c (by simpa [chkC] using hc) hR hk hq
  | loop0 ts x ih =>
    intro c ι S σ H a w Q Qc hc h hw hq
    cases c with
    | loop c =>
      refine LoopFrom.loop ?_
      have := hw (fun σ H => ∀ ι S a w, R C ι S σ H a w → LoopFrom P c Qc a w) (fun σ H hB ι S a w hR => ?_)
      · exact this _ _ _ _ (h.keepS ts)
      · refine LoopFrom.round (ih c hc hR hB (fun e ι S σ H a w hk hR => ?_))
        cases e with
        | norm => exact hk _ _ _ _ (R.keepS hR ts)
        | exit i => exact hq (.exit i) _ _ _ _ _ _ hk hR
        | ret => exact hq .ret _ _ _ _ _ _ hk hR
        | pan t k n => exact hq (.pan t k n) _ _ _ _ _ _ hk hR
    | _ => simp [chkC] at hc
  | trunc t k u x ih =>
    intro c ι S σ H a w Q Qc hc h hw hq
    refine ih c (by simpa [chkC] using hc) h hw (fun e ι S σ H a w hk hR => ?_)
    cases e with
    | norm =>
      obtain ⟨H', ι', hk', hR'⟩ := trunc_sound hR hk
      exact hq .norm _ _ _ _ _ _ hk' hR'
    | exit i => exact hq (.exit i) _ _ _ _ _ _ hk hR
    | ret => exact hq .ret _ _ _ _ _ _ hk hR
    | pan t k n => exact hq (.pan t k n) _ _ _ _ _ _ hk hR
  | pan t k n =>
    intro c ι S σ H a w Q Qc hc h hw hq
    cases c with
    | region id ops d =>
      cases d with
      | true => simp [chkC] at hc
      | false =>
        simp only [chkC, Bool.and_eq_true] at hc
        exact wp_region_list (pan_sound h hc.2 hc.1.2 hc.1.1 fun a hr => hq (.pan t k n) ι S [] H a w hw hr)
    | _ => simp [chkC] at hc
  | regc ops' d u f as =>
    intro c ι S σ H a w Q Qc hc h hw hq
    cases c with
    | region id ops dr =>
      cases dr with
      | true => simp [chkC] at hc
      | false =>
        exact wp_region_list (opsC_sound (K := Q .norm) (F := fun t k n σ H => Q (.pan t k n) σ H) _ _ hc h hw (fun ι S σ H a w hk hR => hq .norm _ _ _ _ _ _ hk hR)
          (fun t k n ι S σ H a w hF hr => hq (.pan t k n) ι S σ H a w hF hr))
    | _ => simp [chkC] at hc

end
end Go.Proofs.Ytcpdnpaedkcebaa.V
