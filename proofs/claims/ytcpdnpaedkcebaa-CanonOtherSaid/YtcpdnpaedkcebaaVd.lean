/- A small calculus over the model, four: the operations that make no memory. -/
import Derived.Test.YtcpdnpaedkcebaaVc
import Derived.RowKit
import Derived.Laws.Entries
namespace Go.Proofs.Ytcpdnpaedkcebaa.V
open Go Go.RowKit
set_option linter.unusedVariables false
set_option linter.unusedSimpArgs false

def constOK : Value → CV → Bool
  | .bool b, .bool c => b == c
  | .int k n, .int k' m => decide (k = k') && decide (n = m)
  | .float .f64 n, .flt m => n == m
  | .string s, .str t => decide (s.data = t.data)
  | .slice none 0 0, .nilsl => true
  | .slice none 0 0, .sl _ [] => true
  | .nilFunc, .nilfn => true
  | _, _ => false
def chkOpd : Operand → Opd → Bool
  | .tmp n, .t m => n == m
  | .const v, .c x => constOK v x
  | .func f, .c (.fn g) => f == g
  | _, _ => false

def uSlice (P : Program) (t : TypeId) (k : TypeId → Bool) : Bool :=
  match P.underlying t with
  | some (.slice e) => k e
  | _ => false
def uAgg (P : Program) (t : TypeId) : Option Bool :=
  match P.underlying t with
  | some (.struct _) => some true
  | some (.array _ _) => some true
  | some _ => some false
  | none => none
def szOf (P : Program) (t : TypeId) : Option Nat := (P.info? t).map (·.size)
def isInt (P : Program) (t : TypeId) (k : IntKind) : Bool :=
  match P.underlying t with
  | some (.int k') => decide (k = k')
  | _ => false
def isStr (P : Program) (t : TypeId) : Bool :=
  match P.underlying t with
  | some .string => true
  | _ => false

theorem ev {C : Ctx} {ι : Nat → Loc} {S : Nat → Prop} {σ : Slots} {H : LH} {a : Act} {w : World} (h : R C ι S σ H a w) {x : Operand} {y : Opd} (hc : chkOpd x y = true) :
    AVR ι H S w (val σ y) (a.eval x) := by
  unfold chkOpd at hc
  split at hc
  · simp at hc; subst hc; exact h.sl _
  · rename_i v x
    unfold constOK at hc
    split at hc
    · simp at hc; subst hc; exact .c _ _ (.bool _)
    · simp at hc; obtain ⟨rfl, rfl⟩ := hc; exact .c _ _ (.int _ _)
    · simp at hc; subst hc; exact .c _ _ (.flt _)
    · rename_i s t
      obtain ⟨s⟩ := s
      obtain ⟨t⟩ := t
      simp at hc; subst hc; exact .c _ _ (.str _)
    · exact .c _ _ .nilsl
    · exact .c _ _ (.slnil _ _ _)
    · exact .c _ _ .nilfn
    · cases hc
  · simp at hc; subst hc; exact .c _ _ (.fn _)
  · cases hc

theorem ung {ι : Nat → Loc} {S : Nat → Prop} {H : LH} {w : World} {g : Prop} {v : AV} {u : Value} {K : AV → Prop} (hw : ungW g v K) (hg : g) (hv : AVR ι H S w v u) :
    ∃ v', AVR ι H S w v' u ∧ K v' := by
  unfold ungW at hw
  split at hw
  · cases hv with
    | grd b v u h h0 => exact ⟨_, h (hw.1 hg), hw.2⟩
  · exact ⟨_, hv, hw⟩

/-- What an operation comes to. -/
def Res (P : Program) (C : Ctx) (σ : Slots) (H : LH) (a : Act) (w : World) (o : Oper) (K : AV → List (Nat × LObj) → Prop) : Prop :=
  ∃ n v w' ι' S' av ws, (execOp a.eval o).run P w = .ok n w' ∧ (n = .value v ∨ (n = .skip ∧ v = Go.undef)) ∧ K av ws ∧
    R C ι' S' σ (LH.sets H ws) a w' ∧ AVR ι' (LH.sets H ws) S' w' av v

section
variable {P : Program} {C : Ctx} {ι : Nat → Loc} {S : Nat → Prop} {σ : Slots} {H : LH} {a : Act} {w : World} {o : Oper} {K : AV → List (Nat × LObj) → Prop} {g : Prop} {u : Nat}

theorem Res.pure (h : R C ι S σ H a w) {v : Value} {av : AV} (hr : (execOp a.eval o).run P w = .ok (.value v) w) (hK : K av []) (hv : AVR ι H S w av v) : Res P C σ H a w o K :=
  ⟨_, v, w, ι, S, av, [], hr, .inl rfl, hK, h, hv⟩

theorem wp_of_Res (h : Res P C σ H a w o K) {N : Act → World → Prop} {Q : Exit → Act → World → Prop}
    (hN : ∀ av ws ι' S' w' v, K av ws → R C ι' S' σ (LH.sets H ws) a w' → AVR ι' (LH.sets H ws) S' w' av v → N (a.put o.dst v) w') : o.wp P a w N Q := by
  obtain ⟨n, v, w', ι', S', av, ws, hr, hn, hK, hR, hv⟩ := h
  unfold Oper.wp
  rw [hr]
  rcases hn with rfl | ⟨rfl, rfl⟩
  · exact hN _ _ _ _ _ _ hK hR hv
  · exact hN _ _ _ _ _ _ hK hR hv

theorem res_mv (h : R C ι S σ H a w) {x : Operand} {y : Opd} (ho : o.op = .move x ∨ o.op = .assign x) (hc : chkOpd x y = true) (hw : opW P g σ H u (.mv y) K) : Res P C σ H a w o K := by
  refine Res.pure h (v := a.eval x) (av := val σ y) ?_ hw (ev h hc)
  rcases ho with ho | ho <;> simp [execOp, ho, pure, Sem.run]

theorem avr_bool {v : AV} {u : Value} {t : Bool} (hv : AVR ι H S w (.c (.bool t)) u) : u = .bool t := by
  cases hv with
  | c _ _ h => cases h; rfl
theorem avr_int {u : Value} {k : IntKind} {n : Int} (hv : AVR ι H S w (.c (.int k n)) u) : u = .int k n := by
  cases hv with
  | c _ _ h => cases h; rfl
theorem avr_str {u : Value} {s : ByteArray} (hv : AVR ι H S w (.c (.str s)) u) : u = .string s := by
  cases hv with
  | c _ _ h => cases h; rfl
theorem avr_flt {u : Value} {s : Nat} (hv : AVR ι H S w (.c (.flt s)) u) : u = .float .f64 s := by
  cases hv with
  | c _ _ h => cases h; rfl
theorem avr_nilsl {u : Value} (hv : AVR ι H S w (.c .nilsl) u) : u = .slice none 0 0 := by
  cases hv with
  | c _ _ h => cases h; rfl

theorem runV {s : Sem Value} {v : Value} {w' : World} (hr : s.run P w = .ok v w') : (do pure (.value (← s)) : Sem Next).run P w = .ok (.value v) w' := by
  rw [Sem.run_bind, hr]
  simp [pure, Sem.run]

theorem res_pick (h : R C ι S σ H a w) {x y z : Operand} {x' y' z' : Opd} (ho : o.op = .pick x y z) (h1 : chkOpd x x' = true) (h2 : chkOpd y y' = true) (h3 : chkOpd z z' = true)
    (hw : opW P g σ H u (.pick x' y' z') K) (hg : g) : Res P C σ H a w o K := by
  obtain ⟨c, hc, hk⟩ := ung hw hg (ev h h1)
  split at hk
  · rename_i t
    have e := avr_bool (v := .c (.bool t)) hc
    have hy := ev h h2
    have hz := ev h h3
    have hr : (execOp a.eval o).run P w = .ok (.value (if t then a.eval y else a.eval z)) w := by
      simp [execOp, ho, e, asBool, pure, Sem.run, bind, Sem.bind]
    unfold pickW at hk
    split at hk
    · rename_i p q e1 e2
      rw [e1] at hy; rw [e2] at hz
      rw [avr_bool (v := .c (.bool p)) hy, avr_bool (v := .c (.bool q)) hz] at hr
      refine Res.pure h hr hk ?_
      cases t <;> exact .c _ _ (.bool _)
    · rename_i g' p q e1 e2
      rw [e1] at hy; rw [e2] at hz
      rw [avr_bool (v := .c (.bool q)) hz] at hr
      refine Res.pure h hr hk.2 ?_
      cases t
      · exact .c _ _ (.bool _)
      · cases hy with
        | grd _ _ _ hy _ => rw [if_pos rfl, if_pos rfl]; exact hy (hk.1 hg rfl)
    · rename_i p g' q e1 e2
      rw [e1] at hy; rw [e2] at hz
      rw [avr_bool (v := .c (.bool p)) hy] at hr
      refine Res.pure h hr hk.2 ?_
      cases t
      · cases hz with
        | grd _ _ _ hz _ => simpa using hz (hk.1 hg rfl)
      · exact .c _ _ (.bool _)
    · rename_i g1 p g2 q e1 e2
      rw [e1] at hy; rw [e2] at hz
      refine Res.pure h hr hk.2.2 ?_
      cases t
      · cases hz with
        | grd _ _ _ hz _ => simpa using hz (hk.2.1 hg rfl)
      · cases hy with
        | grd _ _ _ hy _ => simpa using hy (hk.1 hg rfl)
    · first
        | (rename_i e9 n1; rw [e9] at hy)
        | (rename_i e9 n1 n2; rw [e9] at hy)
        | (rename_i e9 n1 n2 n3; rw [e9] at hy)
        | (rename_i e9 n1 n2 n3 n4; rw [e9] at hy)
      have ht := hk.1 hg
      subst ht
      exact Res.pure h hr hk.2 hy
    · first
        | (rename_i e9 n1; rw [e9] at hz)
        | (rename_i e9 n1 n2; rw [e9] at hz)
        | (rename_i e9 n1 n2 n3; rw [e9] at hz)
        | (rename_i e9 n1 n2 n3 n4; rw [e9] at hz)
      have ht := hk.1 hg
      subst ht
      exact Res.pure h hr hk.2 hz
    · first
        | (rename_i e9 n1; rw [e9] at hy)
        | (rename_i e9 n1 n2; rw [e9] at hy)
        | (rename_i e9 n1 n2 n3; rw [e9] at hy)
        | (rename_i e9 n1 n2 n3 n4; rw [e9] at hy)
      obtain ⟨ht, hg1⟩ := hk.1 hg
      subst ht
      cases hy with
      | grd _ _ _ hy _ => exact Res.pure h hr hk.2 (hy hg1)
    · first
        | (rename_i e9 n1; rw [e9] at hz)
        | (rename_i e9 n1 n2; rw [e9] at hz)
        | (rename_i e9 n1 n2 n3; rw [e9] at hz)
        | (rename_i e9 n1 n2 n3 n4; rw [e9] at hz)
      obtain ⟨ht, hg1⟩ := hk.1 hg
      subst ht
      cases hz with
      | grd _ _ _ hz _ => exact Res.pure h hr hk.2 (hz hg1)
    · exact hk.elim
  · exact hk.elim

theorem run_binI {op : BinOp} {k : IntKind} {x y : Int} {t : TypeId} {ex ey : Operand} {F : CV → Prop} (h : binI g op k x y F) (hg : g) :
    ∃ v c, (do eqGuard op t ex ey (.int k x) (.int k y); binOp op t (.int k x) (.int k y) : Sem Value).run P w = .ok v w ∧ F c ∧ VR w S c v := by
  unfold binI at h
  have hq : ∀ o, (eqGuard o t ex ey (.int k x) (.int k y)).run P w = .ok () w := fun o => by cases o <;> simp [eqGuard, pure, Sem.run, bind, Sem.bind]
  cases op <;> simp only at h <;> first
    | exact h.elim
    | (exact ⟨_, _, by simp [hq, binOp, Op.intArith, Op.intBits, Op.intCmp, pure, Sem.run, go_sem]; try rfl, h, by constructor⟩)
    | (obtain ⟨h1, h2⟩ := h; exact ⟨_, _, by simp [hq, binOp, Op.intDiv, h1 hg, pure, Sem.run, go_sem]; try rfl, h2, by constructor⟩)

theorem run_shI {op : BinOp} (hop : op = .shl ∨ op = .shr) {k k' : IntKind} {x y : Int} {t : TypeId} {ex ey : Operand} {F : CV → Prop} (h : shI g op k x y F) (hg : g) :
    ∃ v c, (do eqGuard op t ex ey (.int k x) (.int k' y); binOp op t (.int k x) (.int k' y) : Sem Value).run P w = .ok v w ∧ F c ∧ VR w S c v := by
  unfold shI at h
  rcases hop with rfl | rfl
  · obtain ⟨h1, h2⟩ := h
    have : ¬ y < 0 := by have := h1 hg; omega
    exact ⟨_, _, by simp [eqGuard, binOp, Op.shift, this, pure, Sem.run, bind, Sem.bind]; rfl, h2, by constructor⟩
  · obtain ⟨h1, h2⟩ := h
    have : ¬ y < 0 := by have := h1 hg; omega
    exact ⟨_, _, by simp [eqGuard, binOp, Op.shift, this, pure, Sem.run, bind, Sem.bind]; rfl, h2, by constructor⟩

theorem run_binS {op : BinOp} {x y : ByteArray} {t : TypeId} {ex ey : Operand} {F : CV → Prop} (h : binS op x y F) :
    ∃ v c, (do eqGuard op t ex ey (.string x) (.string y); binOp op t (.string x) (.string y) : Sem Value).run P w = .ok v w ∧ F c ∧ VR w S c v := by
  unfold binS at h
  split at h
  · exact ⟨_, _, by simp [eqGuard, binOp, Op.stringOp, pure, Sem.run, bind, Sem.bind]; rfl, h, by constructor⟩
  · exact ⟨_, _, by simp [eqGuard, binOp, Op.stringOp, pure, Sem.run, bind, Sem.bind]; rfl, h, by constructor⟩
  · exact h.elim

theorem run_binF {op : BinOp} {x y : Nat} {t : TypeId} {ex ey : Operand} {F : CV → Prop} (h : binF op x y F) :
    ∃ v c, (do eqGuard op t ex ey (.float .f64 x) (.float .f64 y); binOp op t (.float .f64 x) (.float .f64 y) : Sem Value).run P w = .ok v w ∧ F c ∧ VR w S c v := by
  unfold binF at h
  split at h
  · exact ⟨_, _, by simp [eqGuard, binOp, Op.floatCmp, pure, Sem.run, bind, Sem.bind]; rfl, h, by constructor⟩
  · exact ⟨_, _, by simp [eqGuard, binOp, Op.floatCmp, pure, Sem.run, bind, Sem.bind]; rfl, h, by constructor⟩
  · exact h.elim

theorem res_bin (h : R C ι S σ H a w) {x y : Operand} {x' y' : Opd} {op : BinOp} {t t2 : TypeId} (ho : o.op = .binOp op t x y t2) (h1 : chkOpd x x' = true) (h2 : chkOpd y y' = true)
    (hw : opW P g σ H u (.bin op x' y') K) (hg : g) : Res P C σ H a w o K := by
  obtain ⟨v1, hv1, hk⟩ := ung hw hg (ev h h1)
  obtain ⟨v2, hv2, hk⟩ := ung hk hg (ev h h2)
  have fin : ∀ {v c}, (do eqGuard op t x y (a.eval x) (a.eval y); binOp op t (a.eval x) (a.eval y) : Sem Value).run P w = .ok v w → K (.c c) [] → VR w S c v → Res P C σ H a w o K := by
    intro v c hr hK hv
    refine Res.pure h (v := v) (av := .c c) ?_ hK (.c _ _ hv)
    simp only [execOp, ho]
    exact runV hr
  split at hk
  · have e1 := avr_int hv1
    have e2 := avr_int hv2
    rw [e1, e2] at fin
    split at hk
    · obtain ⟨v, c, hr, hK, hv⟩ := run_shI (P := P) (w := w) (S := S) (t := t) (ex := x) (ey := y) (.inl rfl) hk hg
      exact fin hr hK hv
    · obtain ⟨v, c, hr, hK, hv⟩ := run_shI (P := P) (w := w) (S := S) (t := t) (ex := x) (ey := y) (.inr rfl) hk hg
      exact fin hr hK hv
    · obtain ⟨rfl, hk⟩ := hk
      obtain ⟨v, c, hr, hK, hv⟩ := run_binI (P := P) (w := w) (S := S) (t := t) (ex := x) (ey := y) hk hg
      exact fin hr hK hv
  · have e1 := avr_str hv1
    have e2 := avr_str hv2
    rw [e1, e2] at fin
    obtain ⟨v, c, hr, hK, hv⟩ := run_binS (P := P) (w := w) (S := S) (t := t) (ex := x) (ey := y) hk
    exact fin hr hK hv
  · have e1 := avr_flt hv1
    have e2 := avr_flt hv2
    rw [e1, e2] at fin
    obtain ⟨v, c, hr, hK, hv⟩ := run_binF (P := P) (w := w) (S := S) (t := t) (ex := x) (ey := y) hk
    exact fin hr hK hv
  · exact hk.elim

theorem res_not (h : R C ι S σ H a w) {x : Operand} {x' : Opd} {t : TypeId} (ho : o.op = .unOp .not t x) (h1 : chkOpd x x' = true)
    (hw : opW P g σ H u (.not x') K) (hg : g) : Res P C σ H a w o K := by
  obtain ⟨v1, hv1, hk⟩ := ung hw hg (ev h h1)
  split at hk
  · rename_i b
    have e := avr_bool (v := .c (.bool b)) hv1
    exact Res.pure h (by simp only [execOp, ho, e]; exact runV rfl) hk (.c _ _ (.bool _))
  · exact hk.elim

theorem res_cpl (h : R C ι S σ H a w) {x : Operand} {x' : Opd} {t : TypeId} (ho : o.op = .unOp .xor t x) (h1 : chkOpd x x' = true)
    (hw : opW P g σ H u (.cpl x') K) (hg : g) : Res P C σ H a w o K := by
  obtain ⟨v1, hv1, hk⟩ := ung hw hg (ev h h1)
  split at hk
  · rename_i k n
    have e := avr_int (k := k) (n := n) hv1
    exact Res.pure h (by simp only [execOp, ho, e]; exact runV rfl) hk (.c _ _ (.int _ _))
  · exact hk.elim

theorem res_conv (h : R C ι S σ H a w) {x : Operand} {x' : Opd} {k : IntKind} {s d : TypeId} (ho : o.op = .convert s d x) (h1 : chkOpd x x' = true)
    (hs : (P.underlying s).isSome = true) (hd : isInt P d k = true)
    (hw : opW P g σ H u (.conv k x') K) (hg : g) : Res P C σ H a w o K := by
  obtain ⟨v1, hv1, hk⟩ := ung hw hg (ev h h1)
  obtain ⟨sd, hs⟩ := Option.isSome_iff_exists.1 hs
  unfold isInt at hd
  split at hd
  · rename_i k' hd'
    have hkk : k = k' := by simpa using hd
    subst hkk
    split at hk
    · rename_i k0 n
      have e := avr_int (k := k0) (n := n) hv1
      exact Res.pure h (by simp only [execOp, ho, e]; exact runV (by simp [convert, run_underlying hs, run_underlying hd', Conv.intToInt, pure, Sem.run])) hk (.c _ _ (.int _ _))
    · exact hk.elim
  · cases hd

theorem avr_c {v : CV} {u : Value} (hv : AVR ι H S w (.c v) u) : VR w S v u := by
  cases hv; assumption
theorem vr_sl {e : Nat} {xs : List CV} {u : Value} (hv : VR w S (.sl e xs) u) : ∃ p c, u = .slice p xs.length c := by
  cases hv with
  | slnil => exact ⟨_, _, rfl⟩
  | sl => exact ⟨_, _, rfl⟩
theorem vr_agg {cs : List CV} {u : Value} (hv : VR w S (.agg cs) u) : ∃ us : Array Value, u = .agg us ∧ us.size = cs.length ∧
    ∀ i, i < cs.length → VR w S (cs.getD i .undef) (us.getD i Go.undef) := by
  cases hv with
  | agg _ us h1 h2 => exact ⟨us, rfl, h1, h2⟩
theorem avr_osl {i off len : Nat} {u : Value} (hv : AVR ι H S w (.osl i off len) u) : OslOK ι H i off len u := by
  cases hv; assumption
theorem avr_ref {i off : Nat} {u : Value} (hv : AVR ι H S w (.ref i off) u) : RefOK ι H i off u := by
  cases hv; assumption
theorem avr_eptr {i j f : Nat} {u : Value} (hv : AVR ι H S w (.eptr i j f) u) : EptrOK ι H i j f u := by
  cases hv; assumption
theorem avr_vptr {cs : List CV} {u : Value} (hv : AVR ι H S w (.vptr cs) u) : ∃ b o, u = .pointer (some ⟨b, o, none⟩) ∧
    ∀ j, j < cs.length → ∃ x, S b ∧ w.cell? ⟨b, o + j, none⟩ = some x ∧ VR w S (cs.getD j .undef) x := by
  cases hv with
  | vptr _ b o h => exact ⟨b, o, rfl, h⟩
theorem avr_tup {l : List AV} {u : Value} (hv : AVR ι H S w (.tup l) u) : ∃ us : Array Value, u = .tuple us ∧ us.size = l.length ∧
    ∀ i, i < l.length → AVR ι H S w (l.getD i (.c .undef)) (us.getD i Go.undef) := by
  cases hv with
  | tup _ us h1 h2 => exact ⟨us, rfl, h1, h2⟩

theorem sliceLen {L : Loc} {e off len : Nat} {u : Value} (h : SliceAt L e off len u) : ∃ a c, u = .slice a len c := by
  unfold SliceAt at h
  split at h
  · obtain ⟨_, rfl, p, rfl⟩ := h; exact ⟨_, _, rfl⟩
  · rcases h with h | ⟨rfl, p, rfl⟩
    · exact ⟨_, _, h⟩
    · exact ⟨_, _, rfl⟩

theorem res_len (h : R C ι S σ H a w) {x : Operand} {x' : Opd} {t : TypeId} {b : Bool} (ho : o.op = .call { callee := .builtin .len, args := #[x], argTypes := #[t] }) (h1 : chkOpd x x' = true)
    (ht : (if b then isStr P t else uSlice P t fun _ => true) = true)
    (hw : opW P g σ H u (.len b x') K) (hg : g) : Res P C σ H a w o K := by
  obtain ⟨v1, hv1, hk⟩ := ung hw hg (ev h h1)
  have fin : ∀ (n : Nat), (if b = true then ∃ s : ByteArray, a.eval x = .string s ∧ s.size = n else ∃ p c, a.eval x = .slice p n c) → K (.c (.int .i64 n)) [] → Res P C σ H a w o K := by
    intro n he hK
    refine Res.pure h ?_ hK (.c _ _ (.int _ _))
    cases b
    · simp only [Bool.false_eq_true, if_false] at he ht
      obtain ⟨p, c, he⟩ := he
      unfold uSlice at ht
      split at ht
      · rename_i e hu
        simp [execOp, ho, resolve, invoke, builtin, Builtin.len_, he, run_underlying hu, goInt, pure, Sem.run, Sem.run_bind]
      · cases ht
    · simp only [if_true] at he ht
      obtain ⟨s, he, hs⟩ := he
      unfold isStr at ht
      split at ht
      · rename_i hu
        simp [execOp, ho, resolve, invoke, builtin, Builtin.len_, he, run_underlying hu, goInt, pure, Sem.run, Sem.run_bind, hs]
      · cases ht
  split at hk
  · rename_i s
    exact fin _ (by rw [if_pos rfl]; exact ⟨s, avr_str hv1, rfl⟩) hk
  · exact fin _ (by rw [if_neg (by simp)]; exact ⟨_, _, avr_nilsl hv1⟩) hk
  · rename_i e xs
    refine fin _ ?_ hk
    rw [if_neg (by simp)]
    exact vr_sl (avr_c hv1)
  · rename_i i off len
    have hO := avr_osl hv1
    unfold OslOK at hO
    split at hk
    · rename_i e xs hget
      rw [hget] at hO
      exact fin _ (by rw [if_neg (by simp)]; exact sliceLen hO.2) hk
    · rename_i e xs hget
      rw [hget] at hO
      exact fin _ (by rw [if_neg (by simp)]; exact sliceLen hO.2) hk
    · exact hk.elim
  · exact hk.elim

theorem res_mn (h : R C ι S σ H a w) {x y : Operand} {x' y' : Opd} {t1 t2 : TypeId} (ho : o.op = .call { callee := .builtin .min, args := #[x, y], argTypes := #[t1, t2] })
    (h1 : chkOpd x x' = true) (h2 : chkOpd y y' = true)
    (hw : opW P g σ H u (.mn x' y') K) (hg : g) : Res P C σ H a w o K := by
  obtain ⟨v1, hv1, hk⟩ := ung hw hg (ev h h1)
  obtain ⟨v2, hv2, hk⟩ := ung hk hg (ev h h2)
  split at hk
  · obtain ⟨rfl, hk⟩ := hk
    have e1 := avr_int hv1
    have e2 := avr_int hv2
    refine Res.pure h ?_ hk (.c _ _ (.int _ _))
    simp [execOp, ho, resolve, invoke, builtin, Builtin.min_, Builtin.min2, e1, e2, pure, Sem.run]
  · exact hk.elim

theorem res_mx (h : R C ι S σ H a w) {x y : Operand} {x' y' : Opd} {t1 t2 : TypeId} (ho : o.op = .call { callee := .builtin .max, args := #[x, y], argTypes := #[t1, t2] })
    (h1 : chkOpd x x' = true) (h2 : chkOpd y y' = true)
    (hw : opW P g σ H u (.mx x' y') K) (hg : g) : Res P C σ H a w o K := by
  obtain ⟨v1, hv1, hk⟩ := ung hw hg (ev h h1)
  obtain ⟨v2, hv2, hk⟩ := ung hk hg (ev h h2)
  split at hk
  · obtain ⟨rfl, hk⟩ := hk
    have e1 := avr_int hv1
    have e2 := avr_int hv2
    refine Res.pure h ?_ hk (.c _ _ (.int _ _))
    simp [execOp, ho, resolve, invoke, builtin, Builtin.max_, Builtin.max2, e1, e2, pure, Sem.run]
  · exact hk.elim

theorem res_ext (h : R C ι S σ H a w) {x : Operand} {x' : Opd} {i : Nat} (ho : o.op = .extract x i) (h1 : chkOpd x x' = true)
    (hw : opW P g σ H u (.ext x' i) K) (hg : g) : Res P C σ H a w o K := by
  obtain ⟨v1, hv1, hk⟩ := ung hw hg (ev h h1)
  split at hk
  · obtain ⟨hi, hk⟩ := hk
    obtain ⟨us, e, hl, hu⟩ := avr_tup hv1
    refine Res.pure h ?_ hk (hu i hi)
    have hi' : i < us.size := by omega
    simp [execOp, ho, e, Instr.extract, hi', pure, Sem.run]
  · exact hk.elim

theorem run_sidx {t : TypeId} (hu : P.underlying t = some .string) (s : ByteArray) (k : IntKind) (n : Int) (h0 : 0 ≤ n) (hlt : n < s.size) :
    (Instr.index t (.string s) (.int k n)).run P w = .ok (.int .u8 (s.data.toList.getD n.toNat 0).toNat) w := by
  have hm : n.toNat < s.size := by omega
  simp [Instr.index, run_underlying hu, asIntOf, h0, pure, Sem.run, hm]
  rfl

theorem res_sidx (h : R C ι S σ H a w) {x i : Operand} {x' i' : Opd} {t : TypeId} (ho : o.op = .index t x i) (h1 : chkOpd x x' = true) (h2 : chkOpd i i' = true)
    (ht : isStr P t = true) (hw : opW P g σ H u (.sidx x' i') K) (hg : g) : Res P C σ H a w o K := by
  obtain ⟨v1, hv1, hk⟩ := ung hw hg (ev h h1)
  obtain ⟨v2, hv2, hk⟩ := ung hk hg (ev h h2)
  unfold isStr at ht
  split at ht
  · rename_i hu
    split at hk
    · obtain ⟨hb, hk⟩ := hk
      have hb := hb hg
      have e1 := avr_str hv1
      have e2 := avr_int hv2
      refine Res.pure h ?_ hk (.c _ _ (.int _ _))
      simp only [execOp, ho, e1, e2]
      exact runV (run_sidx hu _ _ _ hb.1 hb.2)
    · exact hk.elim
  · cases ht

theorem run_aidx {t e : TypeId} {n : Nat} (hu : P.underlying t = some (.array n e)) (he : uAgg P e = some false) (hsz : szOf P e = some 1) (us : Array Value) (hus : us.size = n) (k : IntKind) (i : Int) (h0 : 0 ≤ i) (hlt : i < n) :
    (Instr.index t (.agg us) (.int k i)).run P w = .ok (us.getD i.toNat Go.undef) w := by
  have hm : i.toNat < us.size := by omega
  unfold szOf at hsz
  obtain ⟨inf, hinf, hs1⟩ := Option.map_eq_some_iff.1 hsz
  have hag : (isAgg e).run P w = .ok false w := by
    unfold uAgg at he
    split at he <;> first | (cases he; done) | skip
    rename_i d hd1 hd2 hd
    simp [isAgg, run_underlying hd, pure, Sem.run]
  simp [Instr.index, run_underlying hu, asIntOf, h0, hlt, pure, Sem.run, sizeOf, typeInfo, hinf, hs1, part, hag, hm]

theorem res_aidx (h : R C ι S σ H a w) {x i : Operand} {x' i' : Opd} {t e : TypeId} {n : Nat} (ho : o.op = .index t x i) (h1 : chkOpd x x' = true) (h2 : chkOpd i i' = true)
    (hu : P.underlying t = some (.array n e)) (he : uAgg P e = some false) (hsz : szOf P e = some 1) (hw : opW P g σ H u (.aidx n x' i') K) (hg : g) : Res P C σ H a w o K := by
  obtain ⟨v1, hv1, hk⟩ := ung hw hg (ev h h1)
  obtain ⟨v2, hv2, hk⟩ := ung hk hg (ev h h2)
  split at hk
  · obtain ⟨hn, hb, hk⟩ := hk
    have hb := hb hg
    have e2 := avr_int hv2
    obtain ⟨us, e1, hl, hu'⟩ := vr_agg (avr_c hv1)
    refine Res.pure h ?_ hk (.c _ _ (hu' _ (by omega)))
    simp only [execOp, ho, e1, e2]
    exact runV (run_aidx hu he hsz us (by omega) _ _ hb.1 hb.2)
  · exact hk.elim

end
end Go.Proofs.Ytcpdnpaedkcebaa.V
