/- A small calculus over the model, five: addresses, loads, slices of slices. -/
import Derived.Test.YtcpdnpaedkcebaaVd
import Derived.Great.FillDense
import Derived.Laws.BytesString
import Derived.Laws.Slices
namespace Go.Proofs.Ytcpdnpaedkcebaa.V
open Go Go.RowKit
set_option linter.unusedVariables false
set_option linter.unusedSimpArgs false

theorem addr_add (b o n : Nat) : (⟨b, o, none⟩ : Addr).add n = ⟨b, o + n, none⟩ := by unfold Addr.add; split <;> simp_all

section
variable {P : Program} {C : Ctx} {ι : Nat → Loc} {S : Nat → Prop} {σ : Slots} {H : LH} {a : Act} {w : World} {o : Oper} {K : AV → List (Nat × LObj) → Prop} {g : Prop} {u : Nat}

def uField (P : Program) (s : TypeId) (f off : Nat) : Bool :=
  match P.underlying s with
  | some (.struct fs) =>
    match fs[f]? with
    | some fd => fd.offset == off && (match szOf P fd.type with | some n => n != 0 | none => false)
    | none => false
  | _ => false

theorem run_fieldAt {s : TypeId} {f off : Nat} (h : uField P s f off = true) (b p : Nat) :
    (Instr.fieldAt s (.pointer (some ⟨b, p, none⟩)) f).run P w = .ok (.pointer (some ⟨b, p + off, none⟩)) w := by
  unfold uField at h
  split at h
  · rename_i fs hu
    split at h
    · rename_i fd hf
      simp only [Bool.and_eq_true, beq_iff_eq] at h
      obtain ⟨rfl, h⟩ := h
      split at h
      · rename_i n hn
        unfold szOf at hn
        obtain ⟨inf, hinf, hs1⟩ := Option.map_eq_some_iff.1 hn
        have hne : inf.size ≠ 0 := by rw [hs1]; simpa using h
        simp [Instr.fieldAt, run_underlying hu, hf, Instr.sureAddr, fieldPlace, sizeOf, typeInfo, hinf, hne, addr_add, pure, Sem.run]
      · cases h
    · cases h
  · cases h

theorem refOK_obj {i off : Nat} {cs : List AV} {x : Value} (h : RefOK ι H i off x) (hg : LH.get H i = some (.obj cs)) :
    off ≤ cs.length ∧ x = .pointer (some ⟨(ι i).block, (ι i).off + off, none⟩) := by
  unfold RefOK at h; rw [hg] at h; exact h
theorem eptrOK_row {i j f e : Nat} {xs : List CV} {x : Value} (h : EptrOK ι H i j f x) (hg : LH.get H i = some (.row e xs) ∨ LH.get H i = some (.vrow e xs)) :
    j < xs.length ∧ EptrAt (ι i) e j f x := by
  unfold EptrOK at h
  rcases hg with hg | hg <;> (rw [hg] at h; exact h)
theorem oslOK_row {i off len e : Nat} {xs : List CV} {x : Value} (h : OslOK ι H i off len x) (hg : LH.get H i = some (.row e xs) ∨ LH.get H i = some (.vrow e xs)) :
    off + len ≤ xs.length ∧ SliceAt (ι i) e off len x := by
  unfold OslOK at h
  rcases hg with hg | hg <;> (rw [hg] at h; exact h)

theorem res_fa (h : R C ι S σ H a w) {x : Operand} {x' : Opd} {s : TypeId} {f off : Nat} (ho : o.op = .fieldAddr s x f) (h1 : chkOpd x x' = true) (hf : uField P s f off = true)
    (hw : opW P g σ H u (.fa x' off) K) (hg : g) : Res P C σ H a w o K := by
  obtain ⟨v1, hv1, hk⟩ := ung hw hg (ev h h1)
  split at hk
  · rename_i i p
    split at hk
    · rename_i cs hget
      obtain ⟨hb, hk⟩ := hk
      obtain ⟨hle, e⟩ := refOK_obj (avr_ref hv1) hget
      refine Res.pure h (v := .pointer (some ⟨(ι i).block, (ι i).off + (p + off), none⟩)) ?_ hk (.ref _ _ _ ?_)
      · simp only [execOp, ho, e]
        rw [← Nat.add_assoc]
        exact runV (run_fieldAt hf _ _)
      · unfold RefOK; rw [hget]; exact ⟨hb, rfl⟩
    · exact hk.elim
  · rename_i i j p
    have hE := avr_eptr hv1
    have key : ∀ (e : Nat) (xs : List CV), (LH.get H i = some (.row e xs) ∨ LH.get H i = some (.vrow e xs)) → K (.eptr i j (p + off)) [] → Res P C σ H a w o K := by
      intro e xs hget hk
      obtain ⟨hlt, hn, e1⟩ := eptrOK_row hE hget
      refine Res.pure h (v := .pointer (some ⟨(ι i).block, (ι i).off + (j * e + (p + off)), none⟩)) ?_ hk (.eptr _ _ _ _ ?_)
      · simp only [execOp, ho, e1]
        have : (ι i).off + (j * e + (p + off)) = (ι i).off + (j * e + p) + off := by omega
        rw [this]
        exact runV (run_fieldAt hf _ _)
      · unfold EptrOK
        rcases hget with hget | hget <;> (rw [hget]; exact ⟨hlt, hn, rfl⟩)
    split at hk
    · rename_i hget; exact key _ _ (.inl hget) hk
    · rename_i hget; exact key _ _ (.inr hget) hk
    · exact hk.elim
  · rename_i cs
    obtain ⟨b, p, e, hc⟩ := avr_vptr hv1
    refine Res.pure h ?_ hk (.vptr _ b (p + off) fun j hj => ?_)
    · simp only [execOp, ho, e]
      exact runV (run_fieldAt hf _ _)
    · have hj' : off + j < cs.length := by simp at hj; omega
      obtain ⟨x, hx⟩ := hc _ hj'
      refine ⟨x, hx.1, by rw [Nat.add_assoc]; exact hx.2.1, ?_⟩
      have : (cs.drop off).getD j .undef = cs.getD (off + j) .undef := by simp [List.getD_eq_getElem?_getD, List.getElem?_drop]
      rw [this]; exact hx.2.2
  · exact hk.elim

theorem run_indexAt {t e : TypeId} {sz : Nat} (hu : P.underlying t = some (.slice e)) (hs : szOf P e = some sz) (b p len cap : Nat) (k : IntKind) (i : Int) (h0 : 0 ≤ i) (h1 : i < len) :
    (Instr.indexAt t (.slice (some ⟨b, p, none⟩) len cap) (.int k i)).run P w = .ok (.pointer (some ⟨b, p + i.toNat * sz, none⟩)) w := by
  unfold szOf at hs
  obtain ⟨inf, hinf, hs1⟩ := Option.map_eq_some_iff.1 hs
  simp [Instr.indexAt, run_underlying hu, asIntOf, h0, h1, sizeOf, typeInfo, hinf, hs1, addr_add, pure, Sem.run]

theorem sliceAt_pos {L : Loc} {e off len : Nat} {x : Value} (h : SliceAt L e off len x) (hp : 0 < len) :
    L.isnil = false ∧ x = .slice (some ⟨L.block, L.off + off * e, none⟩) len (L.cap - off) := by
  unfold SliceAt at h
  split at h
  · obtain ⟨_, h, _⟩ := h; omega
  · rename_i hl
    rcases h with h | ⟨h, _⟩
    · exact ⟨by simpa using hl, h⟩
    · omega

theorem vr_sl_pos {e : Nat} {xs : List CV} {x : Value} (h : VR w S (.sl e xs) x) (hp : 0 < xs.length) :
    ∃ b p cap, x = .slice (some ⟨b, p, none⟩) xs.length cap ∧ xs.length ≤ cap ∧ (∀ x ∈ xs, x.wf e) ∧
      ∀ i j, i < xs.length → j < e → ∃ u, S b ∧ w.cell? ⟨b, p + (i * e + j), none⟩ = some u ∧ VR w S ((xs.getD i .undef).cells.getD j .undef) u := by
  cases h with
  | slnil => simp at hp
  | sl _ _ b p cap us h1 h2 h3 h4 => exact ⟨b, p, cap, rfl, h1, h2, fun i j hi hj => ⟨_, (h3 i j hi hj).1, (h3 i j hi hj).2, h4 i j hi hj⟩⟩

theorem getD_mem {xs : List CV} {i : Nat} (h : i < xs.length) : xs.getD i .undef ∈ xs := by
  rw [List.getD_eq_getElem?_getD, List.getElem?_eq_getElem h]
  exact List.getElem_mem h

theorem res_ia (h : R C ι S σ H a w) {x i : Operand} {x' i' : Opd} {t e : TypeId} {sz : Nat} (ho : o.op = .indexAddr t x i) (h1 : chkOpd x x' = true) (h2 : chkOpd i i' = true)
    (hu : P.underlying t = some (.slice e)) (hs : szOf P e = some sz) (hw : opW P g σ H u (.ia x' i' sz) K) (hg : g) : Res P C σ H a w o K := by
  obtain ⟨v1, hv1, hk0⟩ := ung hw hg (ev h h1)
  obtain ⟨v2, hv2, hk⟩ := ung hk0 hg (ev h h2)
  clear hk0 hw
  split at hk
  · rename_i id off len k n
    have e2 := avr_int hv2
    have hO := avr_osl hv1
    have key : ∀ (e' : Nat) (xs : List CV), (LH.get H id = some (.row e' xs) ∨ LH.get H id = some (.vrow e' xs)) → (e' = sz ∧ (g → 0 ≤ n ∧ n < len) ∧ K (.eptr id (off + n.toNat) 0) []) → Res P C σ H a w o K := by
      rintro e' xs hget ⟨rfl, hb, hk⟩
      have hb := hb hg
      obtain ⟨hle, hsl⟩ := oslOK_row hO hget
      obtain ⟨hn, e1⟩ := sliceAt_pos hsl (by omega)
      refine Res.pure h (v := .pointer (some ⟨(ι id).block, (ι id).off + ((off + n.toNat) * e' + 0), none⟩)) ?_ hk (.eptr _ _ _ _ ?_)
      · simp only [execOp, ho, e1, e2]
        have : (ι id).off + ((off + n.toNat) * e' + 0) = (ι id).off + off * e' + n.toNat * e' := by rw [Nat.add_mul]; omega
        rw [this]
        exact runV (run_indexAt hu hs _ _ _ _ _ _ hb.1 hb.2)
      · unfold EptrOK
        rcases hget with hget | hget <;> (rw [hget]; exact ⟨by omega, hn, rfl⟩)
    split at hk
    · rename_i hget; exact key _ _ (.inl hget) hk
    · rename_i hget; exact key _ _ (.inr hget) hk
    · exact hk.elim
  · rename_i e' xs k n
    obtain ⟨rfl, hb, hk⟩ := hk
    have hb := hb hg
    have e2 := avr_int hv2
    obtain ⟨b, p, cap, e1, hcap, hwf, hc⟩ := vr_sl_pos (avr_c hv1) (by omega)
    refine Res.pure h (v := .pointer (some ⟨b, p + n.toNat * e', none⟩)) ?_ hk (.vptr _ _ _ fun j hj => ?_)
    · simp only [execOp, ho, e1, e2]
      exact runV (run_indexAt hu hs _ _ _ _ _ _ hb.1 hb.2)
    · have hlt : n.toNat < xs.length := by omega
      have hj' : j < e' := by rw [← (hwf _ (getD_mem hlt)).1]; exact hj
      obtain ⟨x, hx⟩ := hc n.toNat j hlt hj'
      exact ⟨x, hx.1, by rw [Nat.add_assoc]; exact hx.2.1, hx.2.2⟩
  · exact hk.elim

theorem uAgg_run {t : TypeId} {b : Bool} (h : uAgg P t = some b) : (isAgg t).run P w = .ok b w := by
  unfold uAgg at h
  split at h <;> first | (cases h; done) | skip
  · rename_i d hd; cases h; simp [isAgg, run_underlying hd, pure, Sem.run]
  · rename_i d _ hd; cases h; simp [isAgg, run_underlying hd, pure, Sem.run]
  · rename_i d hd1 hd2 hd
    cases h
    simp [isAgg, run_underlying hd, pure, Sem.run]

theorem run_loadOne {t : TypeId} (h : uAgg P t = some false) {b p : Nat} {x : Value} (hc : w.cell? ⟨b, p, none⟩ = some x) :
    (Instr.loadAt t (.pointer (some ⟨b, p, none⟩))).run P w = .ok x w := by
  simp [Instr.loadAt, Instr.sureAddr, loadVar, uAgg_run h, load, pure, Sem.run, hc]

theorem run_loadMany {t : TypeId} {n : Nat} (h : uAgg P t = some true) (hs : szOf P t = some n) {b p : Nat} (xs : List Value) (hl : xs.length = n)
    (hc : ∀ j, j < n → w.cell? ⟨b, p + j, none⟩ = some (xs.getD j Go.undef)) :
    (Instr.loadAt t (.pointer (some ⟨b, p, none⟩))).run P w = .ok (.agg xs.toArray) w := by
  unfold szOf at hs
  obtain ⟨inf, hinf, hs1⟩ := Option.map_eq_some_iff.1 hs
  have hl' := run_loadCells_list (P := P) w ⟨b, p, none⟩ xs (fun j v hv => by
    have hj : j < xs.length := (List.getElem?_eq_some_iff.1 hv).1
    rw [addr_add, hc j (by omega), List.getD_eq_getElem?_getD, hv]; rfl)
  rw [hl] at hl'
  simp [Instr.loadAt, Instr.sureAddr, loadVar, uAgg_run h, sizeOf, typeInfo, hinf, hs1, hl', pure, Sem.run]

theorem exists_list {n : Nat} {Q : Nat → Value → Prop} (h : ∀ j, j < n → ∃ x, Q j x) : ∃ xs : List Value, xs.length = n ∧ ∀ j, j < n → Q j (xs.getD j Go.undef) := by
  induction n with
  | zero => exact ⟨[], rfl, fun j hj => by omega⟩
  | succ n ih =>
    obtain ⟨xs, hl, hx⟩ := ih (fun j hj => h j (by omega))
    obtain ⟨x, hq⟩ := h n (by omega)
    refine ⟨xs ++ [x], by simp [hl], fun j hj => ?_⟩
    by_cases e : j = n
    · subst e
      rw [List.getD_eq_getElem?_getD, List.getElem?_append_right (by omega)]
      simp [hl]; exact hq
    · have := hx j (by omega)
      rw [List.getD_eq_getElem?_getD, List.getElem?_append_left (by omega), ← List.getD_eq_getElem?_getD]; exact this

theorem closedW_spec {l : List AV} {F : List CV → Prop} (h : closedW l F) : ∃ vs, l = vs.map .c ∧ F vs := by
  induction l generalizing F with
  | nil => exact ⟨[], rfl, h⟩
  | cons x l ih =>
    cases x with
    | c v =>
      obtain ⟨vs, rfl, hF⟩ := ih h
      exact ⟨v :: vs, rfl, hF⟩
    | _ => exact h.elim

theorem getD_map_c (vs : List CV) (j : Nat) : (vs.map AV.c).getD j (.c .undef) = .c (vs.getD j .undef) := by
  simp only [List.getD_eq_getElem?_getD, List.getElem?_map]
  cases vs[j]? <;> rfl
theorem getD_drop_take {α : Type} (l : List α) (d : α) {o n j : Nat} (h : j < n) : ((l.drop o).take n).getD j d = l.getD (o + j) d := by
  simp only [List.getD_eq_getElem?_getD, List.getElem?_take, h, if_true, List.getElem?_drop]

theorem agg_mk {vs : List CV} {xs : List Value} (hl : xs.length = vs.length) (hv : ∀ j, j < vs.length → VR w S (vs.getD j .undef) (xs.getD j Go.undef)) :
    VR w S (.agg vs) (.agg xs.toArray) :=
  .agg vs xs.toArray (by simp [hl]) (fun i hi => by simpa [List.getD_eq_getElem?_getD, Array.getD_eq_getD_getElem?] using hv i hi)

def chkLoad (P : Program) (t : TypeId) (n : Option Nat) : Bool :=
  match n with
  | none => uAgg P t == some false
  | some n => uAgg P t == some true && szOf P t == some n

theorem load_sound (h : R C ι S σ H a w) {v : AV} {xv : Value} {t : TypeId} {n : Option Nat} {F : AV → Prop} (hv : AVR ι H S w v xv) (ht : chkLoad P t n = true)
    (hw : loadW g H v n F) (hg : g) : ∃ av y, F av ∧ AVR ι H S w av y ∧ (Instr.loadAt t xv).run P w = .ok y w := by
  obtain ⟨v1, hv1, hk⟩ := ung hw hg hv
  split at hk
  · rename_i i off
    split at hk
    · rename_i cs hget
      obtain ⟨hle, e⟩ := refOK_obj (avr_ref hv1) hget
      have hobj := h.hr.obj _ _ hget
      cases n with
      | none =>
        obtain ⟨hlt, hk⟩ := hk
        obtain ⟨x, hc, _, hv⟩ := hobj off hlt
        exact ⟨_, _, hk, hv, by rw [e]; exact run_loadOne (by simpa [chkLoad] using ht) hc⟩
      | some n =>
        obtain ⟨hlt, hk⟩ := hk
        obtain ⟨vs, he, hk⟩ := closedW_spec hk
        have hvl : vs.length = n := by
          have := congrArg List.length he
          simp at this; omega
        have ht' : uAgg P t = some true ∧ szOf P t = some n := by simpa [chkLoad] using ht
        obtain ⟨xs, hxl, hxs⟩ := exists_list (n := n) (Q := fun j x => w.cell? ⟨(ι i).block, (ι i).off + off + j, none⟩ = some x ∧ VR w S (vs.getD j .undef) x) (fun j hj => by
          obtain ⟨x, hc, _, hv⟩ := hobj (off + j) (by omega)
          refine ⟨x, by rw [Nat.add_assoc]; exact hc, ?_⟩
          have e2 : cs.getD (off + j) (.c .undef) = .c (vs.getD j .undef) := by
            rw [← getD_drop_take cs (.c .undef) (n := n) hj, he, getD_map_c]
          rw [e2] at hv
          exact avr_c hv)
        exact ⟨_, _, hk, (.c _ _ (agg_mk (by omega) (fun j hj => (hxs j (by omega)).2))), by rw [e]; exact run_loadMany ht'.1 ht'.2 xs hxl (fun j hj => (hxs j hj).1)⟩
    · exact hk.elim
  · rename_i i j f
    have hE := avr_eptr hv1
    have key : ∀ (e : Nat) (xs : List CV) , (LH.get H i = some (.row e xs) ∨ LH.get H i = some (.vrow e xs)) → 
        ldRow g e (xs.getD j .undef) f n F → ∃ av y, F av ∧ AVR ι H S w av y ∧ (Instr.loadAt t xv).run P w = .ok y w := by
      intro e xs hget hk
      obtain ⟨hlt, hn, e1⟩ := eptrOK_row hE hget
      have hcell : (∀ q, q < e → ∃ x, w.cell? ⟨(ι i).block, (ι i).off + (j * e + q), none⟩ = some x ∧ VR w S ((xs.getD j .undef).cells.getD q .undef) x) ∧ (xs.getD j .undef).wf e := by
        rcases hget with hget | hget
        · have hr := h.hr.row _ _ _ hget
          unfold RowR at hr
          rw [if_neg (by simp [hn])] at hr
          exact ⟨fun q hq => hr.2.2.2 j q hlt hq, hr.2.1 _ (getD_mem hlt)⟩
        · have hr := h.hr.vrow _ _ _ hget
          unfold VRowR at hr
          rw [if_neg (by simp [hn])] at hr
          generalize hz : Value.slice (some ⟨(ι i).block, (ι i).off, none⟩) xs.length (ι i).cap = z at hr
          obtain ⟨b, p, cap, e2, _, hwf, hc⟩ := vr_sl_pos hr (by omega)
          rw [e2] at hz
          injection hz with hz1 hz2 hz3
          injection hz1 with hz1
          injection hz1 with hb hp _
          subst hb; subst hp
          exact ⟨fun q hq => let ⟨x, hx⟩ := hc j q hlt hq; ⟨x, hx.2⟩, hwf _ (getD_mem hlt)⟩
      obtain ⟨hcell, hwf⟩ := hcell
      cases n with
      | none =>
        obtain ⟨hf, hk⟩ := hk
        obtain ⟨x, hc, hv⟩ := hcell f (hf hg)
        exact ⟨_, _, hk, (.c _ _ hv), by rw [e1]; exact run_loadOne (by simpa [chkLoad] using ht) hc⟩
      | some n =>
        obtain ⟨hf, hk⟩ := hk
        have hf := hf hg
        have ht' : uAgg P t = some true ∧ szOf P t = some n := by simpa [chkLoad] using ht
        obtain ⟨ys, hxl, hxs⟩ := exists_list (n := n) (Q := fun q x => w.cell? ⟨(ι i).block, (ι i).off + (j * e + f) + q, none⟩ = some x ∧ VR w S ((((xs.getD j .undef).cells.drop f).take n).getD q .undef) x) (fun q hq => by
          obtain ⟨x, hc, hv⟩ := hcell (f + q) (by omega)
          refine ⟨x, by rw [← hc]; congr 2; omega, ?_⟩
          rw [getD_drop_take _ _ hq]; exact hv)
        exact ⟨_, _, hk, (.c _ _ (agg_mk (by have := hwf.1; simp only [List.length_take, List.length_drop]; omega) (fun q hq => (hxs q (by simp only [List.length_take] at hq; omega)).2))), by rw [e1]; exact run_loadMany ht'.1 ht'.2 ys hxl (fun q hq => (hxs q hq).1)⟩
    split at hk
    · rename_i hget; exact key _ _ (.inl hget) hk
    · rename_i hget; exact key _ _ (.inr hget) hk
    · exact hk.elim
  · rename_i cs
    obtain ⟨b, p, e, hc⟩ := avr_vptr hv1
    cases n with
    | none =>
      obtain ⟨hf, hk⟩ := hk
      obtain ⟨x, _, hx, hv⟩ := hc 0 (hf hg)
      exact ⟨_, _, hk, (.c _ _ hv), by rw [e]; exact run_loadOne (by simpa [chkLoad] using ht) hx⟩
    | some n =>
      obtain ⟨hf, hk⟩ := hk
      have hf := hf hg
      have ht' : uAgg P t = some true ∧ szOf P t = some n := by simpa [chkLoad] using ht
      obtain ⟨ys, hxl, hxs⟩ := exists_list (n := n) (Q := fun q x => w.cell? ⟨b, p + q, none⟩ = some x ∧ VR w S ((cs.take n).getD q .undef) x) (fun q hq => by
        obtain ⟨x, _, hc, hv⟩ := hc q (by omega)
        refine ⟨x, hc, ?_⟩
        have : (cs.take n).getD q .undef = cs.getD q .undef := by simp [List.getD_eq_getElem?_getD, List.getElem?_take, hq]
        rw [this]; exact hv)
      exact ⟨_, _, hk, (.c _ _ (agg_mk (by simp; omega) (fun q hq => (hxs q (by simp at hq; omega)).2))), by rw [e]; exact run_loadMany ht'.1 ht'.2 ys hxl (fun q hq => (hxs q hq).1)⟩
  · exact hk.elim

theorem res_ld (h : R C ι S σ H a w) {x : Operand} {x' : Opd} {t : TypeId} {n : Option Nat} (ho : o.op = .load t x) (h1 : chkOpd x x' = true) (ht : chkLoad P t n = true)
    (hw : opW P g σ H u (.ld x' n) K) (hg : g) : Res P C σ H a w o K := by
  simp only [opW] at hw
  obtain ⟨av, y, hk, hv, hr⟩ := load_sound (P := P) h (ev h h1) ht hw hg
  exact Res.pure h (by simp only [execOp, ho]; exact runV hr) hk hv

end
end Go.Proofs.Ytcpdnpaedkcebaa.V
