/- A small calculus over the model, seven: the operations that make or write memory. -/
import Derived.Test.YtcpdnpaedkcebaaVf
import Derived.Great.BuildSlice
namespace Go.Proofs.Ytcpdnpaedkcebaa.V
open Go Go.RowKit
set_option linter.unusedVariables false
set_option linter.unusedSimpArgs false

section
variable {P : Program} {C : Ctx} {ι : Nat → Loc} {S : Nat → Prop} {σ : Slots} {H : LH} {a : Act} {w : World} {o : Oper} {K : AV → List (Nat × LObj) → Prop} {g : Prop} {u : Nat}

theorem fresh_none {u : Nat} (hf : fresh H u) {k : Nat} (hk : k < 64) : LH.get H (64 * u + k) = none ∧ 64 * u + k < argBase := by
  refine ⟨?_, by have := hf.1; unfold argBase; omega⟩
  have h2 := hf.2
  clear hf
  induction H with
  | nil => rfl
  | cons x H ih =>
    obtain ⟨j, p⟩ := x
    have hj : j ≠ 64 * u + k := fun e => h2 (j, p) List.mem_cons_self (by rw [e]; omega)
    simp only [LH.get, if_neg hj]
    exact ih (fun x hx => h2 x (List.mem_cons_of_mem _ hx))

theorem cell_new {w w' : World} {cells : Array Value} {t : TypeId} {fz : Nat × Nat} (hh : w'.heap = w.heap.push (.cells cells t fz)) (k : Nat) :
    w'.cell? ⟨w.heap.size, k, none⟩ = cells[k]? := by
  simp [World.cell?, hh]
theorem frozen_new {w w' : World} {cells : Array Value} {t : TypeId} (hh : w'.heap = w.heap.push (.cells cells t (0, 0))) (k : Nat) :
    w'.frozen? ⟨w.heap.size, k, none⟩ = false := by
  simp [World.frozen?, hh]
theorem cell_push {w w' : World} {ob : Obj} (hh : w'.heap = w.heap.push ob) {b k : Nat} {x : Value} (h : w.cell? ⟨b, k, none⟩ = some x) : w'.cell? ⟨b, k, none⟩ = some x := by
  have hb : w'.heap[b]? = w.heap[b]? := by rw [hh, Array.getElem?_push, if_neg (by have := cell_lt h; omega)]
  rw [cell_block hb]; exact h

theorem LH.get_keep {i j : Nat} {p : LObj} {ob : LObj} (hn : LH.get H i = none) (hj : LH.get H j = some p) : LH.get (LH.set H i ob) j = some p := by
  have : j ≠ i := fun e => by rw [e, hn] at hj; cases hj
  rw [LH.get_set, if_neg this]; exact hj

/-- Under a new name what was known goes on. -/
theorem keep_new {i : Nat} {L : Loc} {ob : LObj} (hn : LH.get H i = none) : ∀ j p, LH.get H j = some p → ∃ p', LH.get (LH.set H i ob) j = some p' ∧ Kept ι (updL ι i L) j p p' := by
  intro j p hj
  have hne : j ≠ i := fun e => by rw [e, hn] at hj; cases hj
  refine ⟨p, LH.get_keep hn hj, ?_⟩
  have := Kept.refl ι j p
  unfold Kept at this ⊢
  cases p <;> simp_all [updL_ne]

/-- A variable of so many cells. -/
theorem mk_obj (h : R C ι S σ H a w) (hf : fresh H u) {w' : World} {cells : Array Value} {t : TypeId} (hh : w'.heap = w.heap.push (.cells cells t (0, 0)))
    (ho : w'.os = w.os) (ht : w'.tape = w.tape) (hp : w'.output = w.output) {cs : List AV} (hl : cells.size = cs.length)
    (hv : ∀ i, i < cs.length → AVR ι H S w (cs.getD i (.c .undef)) (cells.getD i Go.undef)) :
    ∃ ι', R C ι' S σ (LH.sets H [(64 * u, .obj cs)]) a w' ∧ AVR ι' (LH.sets H [(64 * u, .obj cs)]) S w' (.ref (64 * u) 0) (.pointer (some ⟨w.heap.size, 0, none⟩)) := by
  obtain ⟨hn, hlt⟩ := fresh_none hf (k := 0) (by omega)
  rw [Nat.add_zero] at hn hlt
  have hget : LH.get (LH.set H (64 * u) (.obj cs)) (64 * u) = some (.obj cs) := by rw [LH.get_set, if_pos rfl]
  refine ⟨updL ι (64 * u) ⟨w.heap.size, 0, 0, false⟩, ?_, .ref _ _ _ ?_⟩
  · refine h.new (64 * u) hn hlt ⟨w.heap.size, 0, 0, false⟩ (fun _ => rfl) _ (.obj cs) (by simp) (.inl hh) ho ht hp ?_
    unfold NewAt
    rw [hget, updL_same]
    intro k hk
    refine ⟨cells.getD k Go.undef, ?_, ?_, ?_⟩
    · simp only [Nat.zero_add]
      rw [cell_new hh k]
      have : k < cells.size := by omega
      simp [this]
    · exact frozen_new hh _
    · exact (hv k hk).mono (fun b p x hs hx => ⟨hs, cell_push hh hx⟩) (keep_new hn)
  · unfold RefOK
    simp only [LH.sets]
    rw [hget]
    exact ⟨Nat.zero_le _, by rw [updL_same]⟩

theorem run_zero {t : TypeId} {it : TypeInfo} {zv : Value} (hi : P.info? t = some it) (hz : it.zero = some zv) : (zeroValue t).run P w = .ok zv w := by
  simp [zeroValue, typeInfo, hi, hz, pure, Sem.run]

theorem run_newVar (t : TypeId) (v : Value) : (newVar t v).run P w = .ok ⟨w.heap.size, 0, none⟩ { w with heap := w.heap.push (.cells v.cells t) } := by
  simp [newVar, newRow, newObj, pure, Sem.run]

def chkAlloc (P : Program) (t : TypeId) (z : List CV) : Bool :=
  match P.info? t with
  | some it => match it.zero with
    | some zv => zerosOK zv.cells.toList z
    | none => false
  | none => false

theorem res_alloc (h : R C ι S σ H a w) {t : TypeId} {z : List CV} (ho : o.op = .alloc t) (hc : chkAlloc P t z = true)
    (hw : opW P g σ H u (.alloc z) K) : Res P C σ H a w o K := by
  obtain ⟨hf, hK⟩ := hw
  unfold chkAlloc at hc
  split at hc
  · rename_i it hit
    split at hc
    · rename_i zv hz
      obtain ⟨z1, z2, _⟩ := zerosOK_spec (w := w) (S := S) _ _ hc
      obtain ⟨ι', hR, hv⟩ := mk_obj (u := u) (cells := zv.cells) (t := t) h hf (w' := { w with heap := w.heap.push (.cells zv.cells t) }) rfl rfl rfl rfl (cs := z.map .c) (by simpa using z1) (fun i hi => by
        have := z2 i (by simpa using hi)
        rw [getD_map_c]
        exact .c _ _ (by simpa [List.getD_eq_getElem?_getD, Array.getD_eq_getD_getElem?] using this))
      refine ⟨_, _, _, ι', S, _, _, ?_, .inl rfl, hK, hR, hv⟩
      simp only [execOp, ho]
      refine runV ?_
      simp [Instr.alloc, run_zero hit hz, run_newVar, pure, Sem.run]
    · cases hc
  · cases hc

theorem storable_cell {v : AV} {x : Value} (hv : AVR ι H S w v x) (hs : storable H v) : x.cells = #[x] ∧ x.oneCell' = true := by
  unfold storable at hs
  split at hs
  · exact (avr_c hv).oneCell hs
  · have hO := avr_osl hv
    have : ∃ p l c, x = .slice p l c := by
      split at hs
      · rename_i hget; obtain ⟨p, c, e⟩ := sliceLen (oslOK_row hO (.inl hget)).2; exact ⟨p, _, c, e⟩
      · rename_i hget; obtain ⟨p, c, e⟩ := sliceLen (oslOK_row hO (.inr hget)).2; exact ⟨p, _, c, e⟩
      · exact hs.elim
    obtain ⟨p, l, c, rfl⟩ := this
    exact ⟨rfl, rfl⟩
  · split at hs
    · rename_i hget
      obtain ⟨_, rfl⟩ := refOK_obj (avr_ref hv) hget
      exact ⟨rfl, rfl⟩
    · exact hs.elim
  · exact hs.elim

theorem res_box (h : R C ι S σ H a w) {t : TypeId} {x : Operand} {x' : Opd} (ho : o.op = .box t x) (h1 : chkOpd x x' = true)
    (hw : opW P g σ H u (.box x') K) : Res P C σ H a w o K := by
  have hv := ev h h1
  have fin : ∀ (cs : List AV), fresh H u → (a.eval x).cells.size = cs.length → (∀ i, i < cs.length → AVR ι H S w (cs.getD i (.c .undef)) ((a.eval x).cells.getD i Go.undef)) →
      K (.ref (64 * u) 0) [(64 * u, .obj cs)] → Res P C σ H a w o K := by
    intro cs hf hl hcs hK
    obtain ⟨ι', hR, hv⟩ := mk_obj (u := u) (cells := (a.eval x).cells) (t := t) h hf (w' := { w with heap := w.heap.push (.cells (a.eval x).cells t) }) rfl rfl rfl rfl hl hcs
    refine ⟨_, _, _, ι', S, _, _, ?_, .inl rfl, hK, hR, hv⟩
    simp only [execOp, ho]
    refine runV ?_
    simp [Instr.box, run_newVar, pure, Sem.run]
  simp only [opW] at hw
  split at hw
  · rename_i vs e
    rw [e] at hv
    obtain ⟨us, ex, hl, hu⟩ := vr_agg (avr_c hv)
    refine fin _ hw.1.1 (by rw [ex]; simpa [Value.cells] using hl) (fun i hi => ?_) hw.2
    rw [getD_map_c, ex]
    exact .c _ _ (hu i (by simpa using hi))
  · obtain ⟨hcell, _⟩ := storable_cell hv hw.1.2
    refine fin _ hw.1.1 (by rw [hcell]; rfl) (fun i hi => ?_) hw.2
    have : i = 0 := by simp at hi; omega
    subst this
    rw [hcell]
    simpa using hv

theorem run_storeAt {t : TypeId} {sz : Nat} (hs : szOf P t = some sz) {b p : Nat} {v : Value} (hl : v.cells.size = sz) (h1 : ∀ x ∈ v.cells.toList, x.oneCell' = true)
    (hc : ∀ j, j < sz → ∃ x, w.cell? ⟨b, p + j, none⟩ = some x) (hf : ∀ j, j < sz → w.frozen? ⟨b, p + j, none⟩ = false) :
    (Instr.storeAt t (.pointer (some ⟨b, p, none⟩)) v).run P w = .ok () (w.setCells b p v.cells.toList) := by
  unfold szOf at hs
  obtain ⟨inf, hinf, hs1⟩ := Option.map_eq_some_iff.1 hs
  have hst := run_storeCells_cells (P := P) b p v.cells.toList 0 w (fun j hj => by
    obtain ⟨x, hx⟩ := hc j (by simp at hj; omega)
    rw [Nat.add_zero, hx]; rfl) (fun j hj => by rw [Nat.add_zero]; exact hf j (by simp at hj; omega)) h1
  simp [Instr.storeAt, Instr.sureAddr, storeVar, sizeOf, typeInfo, hinf, hs1, hl, hst, pure, Sem.run]

theorem heap_setCells (b : Nat) : ∀ (vs : List Value) (o : Nat) (w : World), (w.setCells b o vs).heap.size = w.heap.size ∧ (∀ k, k ≠ b → (w.setCells b o vs).heap[k]? = w.heap[k]?) ∧
    (w.setCells b o vs).os = w.os ∧ (w.setCells b o vs).tape = w.tape ∧ (w.setCells b o vs).output = w.output
  | [], _, _ => ⟨rfl, fun _ _ => rfl, rfl, rfl, rfl⟩
  | v :: r, o, w => by
    obtain ⟨h1, h2, h3, h4, h5⟩ := heap_setCells b r (o + 1) (w.setCell ⟨b, o, none⟩ v)
    refine ⟨by rw [World.setCells, h1]; simp [World.setCell], fun k hk => ?_, h3, h4, h5⟩
    rw [World.setCells, h2 k hk]
    exact Below.heap_setCell _ _ _ _ hk

/-- A cell behind the storing of some. -/
theorem cell_setCells (b o : Nat) (vs : List Value) (hc : ∀ j, j < vs.length → ∃ x, w.cell? ⟨b, o + j, none⟩ = some x) (k : Nat) :
    (w.setCells b o vs).cell? ⟨b, k, none⟩ = if o ≤ k ∧ k < o + vs.length then some (vs.getD (k - o) Go.undef) else w.cell? ⟨b, k, none⟩ := by
  split
  · rename_i hk
    have := World.cell?_setCells_in b vs o w (fun j hj => by obtain ⟨x, hx⟩ := hc j hj; rw [hx]; rfl) (k - o) (by omega)
    have e : o + (k - o) = k := by omega
    rw [e] at this
    rw [this, List.getD_eq_getElem?_getD, List.getElem?_eq_getElem (by omega)]
    rfl
  · rename_i hk
    exact World.cell?_setCells_out b vs o w ⟨b, k, none⟩ (fun _ _ => by simp only; omega)

def chkStore (P : Program) (t : TypeId) (n : Option Nat) : Bool :=
  match n with
  | none => szOf P t == some 1
  | some n => szOf P t == some n

theorem same_kept {i : Nat} {ob ob' : LObj} (hg : LH.get H i = some ob) (hk : Kept ι ι i ob ob') : ∀ j p, LH.get H j = some p → ∃ p', LH.get (LH.set H i ob') j = some p' ∧ Kept ι ι j p p' := by
  intro j p hj
  by_cases e : j = i
  · subst e
    rw [hg] at hj
    cases hj
    exact ⟨ob', by rw [LH.get_set, if_pos rfl], hk⟩
  · exact ⟨p, by rw [LH.get_set, if_neg e]; exact hj, Kept.refl _ _ _⟩

/-- Cells of a variable of ours are written. -/
theorem wr_obj (h : R C ι S σ H a w) {i off : Nat} {cs : List AV} (hget : LH.get H i = some (.obj cs)) (vs : List AV) (us : List Value) (hl : us.length = vs.length) (hle : off + vs.length ≤ cs.length)
    (hv : ∀ j, j < vs.length → AVR ι H S w (vs.getD j (.c .undef)) (us.getD j Go.undef)) :
    R C ι S σ (LH.set H i (.obj (cs.take off ++ vs ++ cs.drop (off + vs.length)))) a (w.setCells (ι i).block ((ι i).off + off) us) := by
  have hw : Owned ι H i := by unfold Owned; rw [hget]; trivial
  obtain ⟨z1, z2, z3, z4, z5⟩ := heap_setCells (ι i).block us ((ι i).off + off) w
  have hobj := h.hr.obj _ _ hget
  have hlen : (cs.take off ++ vs ++ cs.drop (off + vs.length)).length = cs.length := by simp; omega
  have hk : Kept ι ι i (.obj cs) (.obj (cs.take off ++ vs ++ cs.drop (off + vs.length))) := ⟨rfl, hlen⟩
  refine h.write hget hw hk (by simp) (fun b hb => z2 b hb) z1 z3 z4 z5 ?_
  unfold NewAt
  rw [LH.get_set, if_pos rfl]
  intro k hkl
  rw [hlen] at hkl
  have hcell := cell_setCells (w := w) (ι i).block ((ι i).off + off) us (fun j hj => by
    obtain ⟨x, hx, _⟩ := hobj (off + j) (by omega)
    exact ⟨x, by rw [Nat.add_assoc]; exact hx⟩) ((ι i).off + k)
  have views : ∀ b p x, S b → w.cell? ⟨b, p, none⟩ = some x → S b ∧ (w.setCells (ι i).block ((ι i).off + off) us).cell? ⟨b, p, none⟩ = some x := fun b p x hs hx =>
    ⟨hs, by rw [cell_block (z2 b (fun e => h.hr.disj i hw (e ▸ hs)))]; exact hx⟩
  have hfr : (w.setCells (ι i).block ((ι i).off + off) us).frozen? ⟨(ι i).block, (ι i).off + k, none⟩ = false := by
    rw [World.frozen?_setCells]
    obtain ⟨_, _, hx, _⟩ := hobj k hkl
    exact hx
  by_cases hin : off ≤ k ∧ k < off + vs.length
  · refine ⟨us.getD (k - off) Go.undef, ?_, hfr, ?_⟩
    · rw [hcell, if_pos (by omega)]
      congr 2; omega
    · have e : (cs.take off ++ vs ++ cs.drop (off + vs.length)).getD k (.c .undef) = vs.getD (k - off) (.c .undef) := by
        have h1 : (cs.take off).length = off := by simp; omega
        simp only [List.getD_eq_getElem?_getD]
        rw [List.append_assoc, List.getElem?_append_right (by omega), h1, List.getElem?_append_left (by omega)]
      rw [e]
      exact (hv (k - off) (by omega)).mono views (same_kept hget hk)
  · obtain ⟨x, hx, _, hxv⟩ := hobj k hkl
    refine ⟨x, by rw [hcell, if_neg (by omega)]; exact hx, hfr, ?_⟩
    have e : (cs.take off ++ vs ++ cs.drop (off + vs.length)).getD k (.c .undef) = cs.getD k (.c .undef) := by
      have h1 : (cs.take off).length = off := by simp; omega
      simp only [List.getD_eq_getElem?_getD]
      by_cases hk1 : k < off
      · rw [List.append_assoc, List.getElem?_append_left (by omega), List.getElem?_take, if_pos hk1]
      · rw [List.append_assoc, List.getElem?_append_right (by omega), h1, List.getElem?_append_right (by omega), List.getElem?_drop]
        congr 2; omega
    rw [e]
    exact hxv.mono views (same_kept hget hk)

/-- Cells of a row's element are written. -/
theorem wr_row (h : R C ι S σ H a w) {i idx f e : Nat} {xs : List CV} (hget : LH.get H i = some (.row e xs)) (hn : (ι i).isnil = false) (hidx : idx < xs.length) (us : List Value) (hfe : f + us.length ≤ e)
    (y : CV) (hy : y.wf e)
    (hin : ∀ q, f ≤ q → q < f + us.length → VR w S (y.cells.getD q .undef) (us.getD (q - f) Go.undef))
    (hout : ∀ q, (q < f ∨ f + us.length ≤ q) → q < e → y.cells.getD q .undef = (xs.getD idx .undef).cells.getD q .undef) :
    R C ι S σ (LH.set H i (.row e (xs.set idx y))) a (w.setCells (ι i).block ((ι i).off + (idx * e + f)) us) := by
  have hw : Owned ι H i := by unfold Owned; rw [hget]; exact hn
  obtain ⟨z1, z2, z3, z4, z5⟩ := heap_setCells (ι i).block us ((ι i).off + (idx * e + f)) w
  have hrow := h.hr.row _ _ _ hget
  unfold RowR at hrow
  rw [if_neg (by simp [hn])] at hrow
  obtain ⟨r1, r2, r3, r4⟩ := hrow
  have hk : Kept ι ι i (.row e xs) (.row e (xs.set idx y)) := ⟨rfl, rfl, by simp⟩
  refine h.write hget hw hk (by simp) (fun b hb => z2 b hb) z1 z3 z4 z5 ?_
  unfold NewAt
  rw [LH.get_set, if_pos rfl]
  show RowR _ _ _ _ _
  unfold RowR
  rw [if_neg (by simp [hn])]
  have hcell := fun k => cell_setCells (w := w) (ι i).block ((ι i).off + (idx * e + f)) us (fun j hj => by
    obtain ⟨x, hx, _⟩ := r4 idx (f + j) hidx (by omega)
    refine ⟨x, ?_⟩
    rw [← hx]; congr 2; omega) k
  have views : ∀ b p x, S b → w.cell? ⟨b, p, none⟩ = some x → S b ∧ (w.setCells (ι i).block ((ι i).off + (idx * e + f)) us).cell? ⟨b, p, none⟩ = some x := fun b p x hs hx =>
    ⟨hs, by rw [cell_block (z2 b (fun e => h.hr.disj i hw (e ▸ hs)))]; exact hx⟩
  refine ⟨by simp; exact r1, fun x hx => ?_, fun p hp => ?_, fun p q hp hq => ?_⟩
  · rcases List.mem_or_eq_of_mem_set hx with hx | rfl
    · exact r2 x hx
    · exact hy
  · rw [World.frozen?_setCells]
    refine ⟨?_, (r3 p hp).2⟩
    obtain ⟨x, hx⟩ := (r3 p hp).1
    rw [hcell]
    split
    · exact ⟨_, rfl⟩
    · exact ⟨x, hx⟩
  · simp only [List.length_set] at hp
    by_cases hpi : p = idx
    · subst hpi
      have e1 : (xs.set p y).getD p .undef = y := by simp [List.getD_eq_getElem?_getD, hp]
      rw [e1]
      by_cases hqi : f ≤ q ∧ q < f + us.length
      · refine ⟨us.getD (q - f) Go.undef, ?_, (hin q hqi.1 hqi.2).mono views⟩
        rw [hcell, if_pos (by omega)]
        congr 2; omega
      · obtain ⟨x, hx, hxv⟩ := r4 p q hp hq
        refine ⟨x, by rw [hcell, if_neg (by omega)]; exact hx, ?_⟩
        rw [hout q (by omega) hq]
        exact hxv.mono views
    · have e1 : (xs.set idx y).getD p .undef = xs.getD p .undef := by simp [List.getD_eq_getElem?_getD, List.getElem?_set, Ne.symm hpi]
      rw [e1]
      obtain ⟨x, hx, hxv⟩ := r4 p q hp hq
      refine ⟨x, ?_, hxv.mono views⟩
      rw [hcell, if_neg ?_]
      · exact hx
      · intro hcon
        rcases Nat.lt_or_gt_of_ne hpi with hlt | hgt
        · have : (p + 1) * e ≤ idx * e := Nat.mul_le_mul_right _ hlt
          rw [Nat.add_mul] at this
          omega
        · have : (idx + 1) * e ≤ p * e := Nat.mul_le_mul_right _ hgt
          rw [Nat.add_mul] at this
          omega

theorem vr_one_cells {vs : List CV} {us : Array Value} (hl : us.size = vs.length) (hu : ∀ i, i < vs.length → VR w S (vs.getD i .undef) (us.getD i Go.undef)) (h1 : ∀ c ∈ vs, c.one = true) :
    ∀ x ∈ us.toList, x.oneCell' = true := by
  intro x hx
  obtain ⟨i, hi, rfl⟩ := List.getElem_of_mem hx
  have hi' : i < vs.length := by simp at hi; omega
  have := hu i hi'
  have e1 : us.getD i Go.undef = us.toList[i] := by
    have : i < us.size := by simpa using hi
    simp [this]
  rw [e1] at this
  exact (this.oneCell (h1 _ (getD_mem hi'))).2

theorem getD_set_self {α : Type} {i : Nat} {v d : α} (l' : List α) (h : i < l'.length) : (l'.set i v).getD i d = v := by
  simp [List.getD_eq_getElem?_getD, h]
theorem getD_set_ne {α : Type} {i j : Nat} {v d : α} (l : List α) (h : i ≠ j) : (l.set i v).getD j d = l.getD j d := by
  simp [List.getD_eq_getElem?_getD, List.getElem?_set, h]
theorem one_cells {v : CV} (h : v.one = true) : v.cells = [v] := by
  cases v <;> first | rfl | cases h
theorem setC_spec {X : CV} {e f : Nat} {v : CV} (hwf : X.wf e) (hfe : f < e) (hone : v.one = true) : (setC X f v).wf e ∧ (setC X f v).cells = X.cells.set f v := by
  obtain ⟨hl, ho⟩ := hwf
  by_cases hX : ∃ cs, X = .agg cs
  · obtain ⟨cs, rfl⟩ := hX
    refine ⟨⟨by simp only [setC, CV.cells, List.length_set]; exact hl, fun c hc => ?_⟩, rfl⟩
    rcases List.mem_or_eq_of_mem_set (show c ∈ cs.set f v from hc) with hc | rfl
    · exact ho c hc
    · exact hone
  · have hc : X.cells = [X] ∧ setC X f v = v := by
      cases X <;> first | exact ⟨rfl, rfl⟩ | exact absurd ⟨_, rfl⟩ hX
    rw [hc.1] at hl
    have he : e = 1 := by simpa using hl.symm
    have hf0 : f = 0 := by omega
    subst hf0
    rw [hc.2, hc.1, one_cells hone]
    refine ⟨⟨by rw [one_cells hone]; simp [he], fun c hcc => ?_⟩, rfl⟩
    rw [one_cells hone] at hcc
    simp at hcc; rw [hcc]; exact hone

theorem res_st (h : R C ι S σ H a w) {t : TypeId} {x y : Operand} {x' y' : Opd} {n : Option Nat} (ho : o.op = .store t x y) (h1 : chkOpd x x' = true) (h2 : chkOpd y y' = true) (ht : chkStore P t n = true)
    (hw : opW P g σ H u (.st x' y' n) K) : Res P C σ H a w o K := by
  have hv1 := ev h h1
  have hv2 := ev h h2
  have fin : ∀ {b p sz : Nat}, szOf P t = some sz → a.eval x = .pointer (some ⟨b, p, none⟩) → (a.eval y).cells.size = sz → (∀ x ∈ (a.eval y).cells.toList, x.oneCell' = true) →
      (∀ j, j < sz → ∃ x, w.cell? ⟨b, p + j, none⟩ = some x) → (∀ j, j < sz → w.frozen? ⟨b, p + j, none⟩ = false) →
      ∀ ws, K (.c .undef) ws → R C ι S σ (LH.sets H ws) a (w.setCells b p (a.eval y).cells.toList) → Res P C σ H a w o K := by
    intro b p sz hs ex hl ho1 hc hf ws hK hR
    refine ⟨.skip, Go.undef, _, ι, S, _, ws, ?_, .inr ⟨rfl, rfl⟩, hK, hR, AVR.undef _⟩
    simp only [execOp, ho, ex]
    rw [Sem.run_bind, run_storeAt hs hl ho1 hc hf]
    simp [pure, Sem.run]
  simp only [opW, storeW] at hw
  split at hw
  · rename_i i off e1
    rw [e1] at hv1
    split at hw
    · rename_i cs hget
      obtain ⟨hle, ex⟩ := refOK_obj (avr_ref hv1) hget
      have hobj := h.hr.obj _ _ hget
      cases n with
      | none =>
        dsimp only at hw
        obtain ⟨hlt, hst, hK⟩ := hw
        obtain ⟨hcell, hone⟩ := storable_cell hv2 hst
        have hs : szOf P t = some 1 := by simpa [chkStore] using ht
        refine fin hs ex (by rw [hcell]; rfl) (by rw [hcell]; intro z hz; simp at hz; rw [hz]; exact hone) (fun j hj => ?_) (fun j hj => ?_) _ hK ?_
        · obtain ⟨z, hz, _⟩ := hobj (off + j) (by omega)
          exact ⟨z, by rw [Nat.add_assoc]; exact hz⟩
        · obtain ⟨z, _, hz, _⟩ := hobj (off + j) (by omega)
          rw [Nat.add_assoc]; exact hz
        · have := wr_obj h hget (off := off) [val σ y'] [a.eval y] rfl (by simp; omega) (fun j hj => by
            have : j = 0 := by simp at hj; omega
            subst this; exact hv2)
          rw [hcell]
          simp only [LH.sets]
          have e2 : cs.take off ++ [val σ y'] ++ cs.drop (off + [val σ y'].length) = cs.set off (val σ y') := by
            rw [List.set_eq_take_append_cons_drop, if_pos hlt]; simp
          rw [e2] at this
          exact this
      | some n =>
        dsimp only at hw
        split at hw
        · rename_i vs e2
          obtain ⟨⟨hl, hle2, hone⟩, hK⟩ := hw
          rw [e2] at hv2
          obtain ⟨us, ey, hus, huv⟩ := vr_agg (avr_c hv2)
          have hs : szOf P t = some n := by simpa [chkStore] using ht
          have hcl : (a.eval y).cells = us := by rw [ey]; rfl
          refine fin hs ex (by rw [hcl]; omega) (by rw [hcl]; exact vr_one_cells hus huv hone) (fun j hj => ?_) (fun j hj => ?_) _ hK ?_
          · obtain ⟨z, hz, _⟩ := hobj (off + j) (by omega)
            exact ⟨z, by rw [Nat.add_assoc]; exact hz⟩
          · obtain ⟨z, _, hz, _⟩ := hobj (off + j) (by omega)
            rw [Nat.add_assoc]; exact hz
          · have := wr_obj h hget (off := off) (vs.map .c) us.toList (by simp [hus]) (by simp; omega) (fun j hj => by
              rw [getD_map_c]
              have := huv j (by simpa using hj)
              exact .c _ _ (by simpa [List.getD_eq_getElem?_getD, Array.getD_eq_getD_getElem?] using this))
            rw [hcl]
            simp only [LH.sets]
            simp only [List.length_map, hl] at this
            exact this
        · exact hw.elim
    · exact hw.elim
  · rename_i i idx f e1
    rw [e1] at hv1
    split at hw
    · rename_i e xs hget
      obtain ⟨hlt, hn, ex⟩ := eptrOK_row (avr_eptr hv1) (.inl hget)
      have hrow := h.hr.row _ _ _ hget
      unfold RowR at hrow
      rw [if_neg (by simp [hn])] at hrow
      obtain ⟨r1, r2, r3, r4⟩ := hrow
      have hmul : idx * e + e ≤ (ι i).cap * e := by
        have : (idx + 1) * e ≤ (ι i).cap * e := Nat.mul_le_mul_right _ (by omega)
        rw [Nat.add_mul] at this; omega
      split at hw
      · rename_i v e2
        obtain ⟨hfe, hone, hK⟩ := hw
        rw [e2] at hv2
        obtain ⟨hcell, hone'⟩ := (avr_c hv2).oneCell hone
        have hs : szOf P t = some 1 := by simpa [chkStore] using ht
        have hwf := r2 _ (getD_mem hlt)
        refine fin hs ex (by rw [hcell]; rfl) (by rw [hcell]; intro z hz; simp at hz; rw [hz]; exact hone') (fun j hj => ?_) (fun j hj => ?_) _ hK ?_
        · obtain ⟨z, hz, _⟩ := r4 idx f hlt hfe
          have : j = 0 := by omega
          subst this
          exact ⟨z, hz⟩
        · have : j = 0 := by omega
          subst this
          exact (r3 (idx * e + f) (by omega)).2
        · have hsc := setC_spec hwf hfe hone
          have := wr_row h hget hn hlt (f := f) [a.eval y] (by simp; omega) (setC (xs.getD idx .undef) f v) hsc.1
            (fun q hq1 hq2 => by
              have : q = f := by simp at hq2; omega
              subst this
              rw [hsc.2]
              have hfl : q < (xs.getD idx .undef).cells.length := by rw [hwf.1]; exact hfe
              rw [getD_set_self _ hfl, Nat.sub_self]
              exact avr_c hv2)
            (fun q hq1 hq2 => by
              rw [hsc.2]
              have : f ≠ q := by simp at hq1; omega
              rw [getD_set_ne _ this])
          rw [hcell]
          exact this
      · rename_i n vs e2
        obtain ⟨⟨hl, rfl, rfl, hone⟩, hK⟩ := hw
        rw [e2] at hv2
        obtain ⟨us, ey, hus, huv⟩ := vr_agg (avr_c hv2)
        have hs : szOf P t = some n := by simpa [chkStore] using ht
        have hcl : (a.eval y).cells = us := by rw [ey]; rfl
        refine fin hs ex (by rw [hcl]; omega) (by rw [hcl]; exact vr_one_cells hus huv hone) (fun j hj => ?_) (fun j hj => ?_) _ hK ?_
        · obtain ⟨z, hz, _⟩ := r4 idx j hlt hj
          exact ⟨z, by rw [← hz]; congr 2; omega⟩
        · have := (r3 (idx * n + j) (by omega)).2
          rw [← this]; congr 2; omega
        · have := wr_row h hget hn hlt (f := 0) us.toList (by simp; omega) (.agg vs) ⟨hl, hone⟩
            (fun q hq1 hq2 => by
              have := huv q (by simp at hq2; omega)
              simpa [CV.cells, List.getD_eq_getElem?_getD, Array.getD_eq_getD_getElem?] using this)
            (fun q hq1 hq2 => by simp at hq1; omega)
          rw [hcl]
          exact this
      · exact hw.elim
    · exact hw.elim
  · exact hw.elim

end
end Go.Proofs.Ytcpdnpaedkcebaa.V
