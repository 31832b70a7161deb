/- A small calculus over the model: blocks that it does not see (maps), and parts of a function's code. -/
import Derived.Test.YtcpdnpaedkcebaaVx
import Derived.MapKept
namespace Go.Proofs.Ytcpdnpaedkcebaa.V
open Go Go.RowKit
set_option linter.unusedVariables false
set_option linter.unusedSimpArgs false

variable {C : Ctx} {ι ι' : Nat → Loc} {S S' : Nat → Prop} {σ σ' : Slots} {H H' : LH} {a a' : Act} {w w' : World}

/-- The blocks of the own things. -/
def OwnB (ι : Nat → Loc) (H : LH) (b : Nat) : Prop := ∃ id, Owned ι H id ∧ (ι id).block = b
/-- A block that is there, and that the calculus does not see. -/
def Hid (ι : Nat → Loc) (S : Nat → Prop) (H : LH) (w : World) (b : Nat) : Prop := b < w.heap.size ∧ ¬ S b ∧ ¬ OwnB ι H b
def Ctx.now (C : Ctx) (w : World) (ι : Nat → Loc) (S : Nat → Prop) (H : LH) : Ctx := ⟨w, OwnB ι H, S, ι, C.n, C.ds⟩

theorem R.rebase (h : R C ι S σ H a w) : R (C.now w ι S H) ι S σ H a w :=
  ⟨Fr.refl _ _, h.hr, h.sl, fun id ho => .inl ⟨id, ho, rfl⟩, fun b hb => .inl hb, fun b hb => hb, fun _ _ _ _ _ => rfl, h.size, h.defs⟩

/-- What the first context knows of a moment. -/
structure Base (C : Ctx) (ι : Nat → Loc) (S : Nat → Prop) (H : LH) (w : World) : Prop where
  fr : Fr C.O C.w0 w
  sub : ∀ b, C.S0 b → S b
  sup : ∀ b, S b → C.S0 b ∨ C.O b ∨ C.w0.heap.size ≤ b
  own : ∀ b, OwnB ι H b → C.O b ∨ C.w0.heap.size ≤ b
theorem R.base (h : R C ι S σ H a w) : Base C ι S H w := ⟨h.fr, h.sub, h.sup, fun b ⟨id, ho, e⟩ => e ▸ h.own id ho⟩

theorem R.unbase (hb : Base C ι S H w) (h : R (C.now w ι S H) ι' S' σ' H' a' w') (hl : ∀ id ob, argBase ≤ id → LH.get H' id = some ob → ¬ ob.own) : R C ι' S' σ' H' a' w' := by
  refine ⟨⟨h.fr.os.trans hb.fr.os, h.fr.tape.trans hb.fr.tape, h.fr.output.trans hb.fr.output, Nat.le_trans hb.fr.size h.fr.size, fun k hk hO => ?_⟩, h.hr, h.sl, fun id ho => ?_, fun b hS => ?_, fun b hS => h.sub b (hb.sub b hS), fun id ob hg ho hge => absurd ho (hl id ob hge hg), h.size, h.defs⟩
  · rw [h.fr.block k (Nat.lt_of_lt_of_le hk hb.fr.size) (fun ho => (hb.own k ho).elim hO (fun hge => by omega))]
    exact hb.fr.block k hk hO
  · rcases h.own id ho with ho | ho
    · exact hb.own _ ho
    · exact .inr (Nat.le_trans hb.fr.size ho)
  · rcases h.sup b hS with hS | hS | hS
    · exact hb.sup b hS
    · exact .inr (hb.own b hS)
    · exact .inr (.inr (Nat.le_trans hb.fr.size hS))

theorem Hid.step {b : Nat} (hb : Hid ι S H w b) (h : R (C.now w ι S H) ι' S' σ' H' a' w') : Hid ι' S' H' w' b ∧ w'.heap[b]? = w.heap[b]? := by
  refine ⟨⟨Nat.lt_of_lt_of_le hb.1 h.fr.size, fun hS => ?_, fun ⟨id, ho, e⟩ => ?_⟩, h.fr.block b hb.1 hb.2.2⟩
  · rcases h.sup b hS with hS | hS | hS
    · exact hb.2.1 hS
    · exact hb.2.2 hS
    · exact absurd hb.1 (Nat.not_lt.2 hS)
  · subst e
    rcases h.own id ho with ho | ho
    · exact hb.2.2 ho
    · exact absurd hb.1 (Nat.not_lt.2 ho)

/-- Slots that hold closed values alone: what else there was is let go. -/
theorem R.keep {l : List (Nat × AV)} (h : R C ι S σ H a w) (hl : ∀ p ∈ l, ∃ v, p.2 = .c v ∧ Slots.get σ p.1 = .c v) : R C ι S l [] a w := by
  have nope : ∀ id, ¬ Owned ι [] id := fun id ho => by unfold Owned at ho; simp [LH.get] at ho
  refine ⟨h.fr, ⟨fun id cs hg => by simp [LH.get] at hg, fun id e xs hg => by simp [LH.get] at hg, fun id e xs hg => by simp [LH.get] at hg, fun i j hi => absurd hi (nope _), fun i hi => absurd hi (nope _), fun i hi => absurd hi (nope _), h.hr.slt⟩, fun t => ?_, fun id ho => absurd ho (nope _), h.sup, h.sub, fun id ob hg => by simp [LH.get] at hg, h.size, h.defs⟩
  have : ∀ l : List (Nat × AV), (∀ p ∈ l, ∃ v, p.2 = .c v ∧ Slots.get σ p.1 = .c v) → AVR ι [] S w (Slots.get l t) (a.tmps.getD t Go.undef) := by
    intro l
    induction l with
    | nil => intro _; exact AVR.undef _
    | cons p l ih =>
      intro hl
      obtain ⟨k, v⟩ := p
      by_cases e : k = t
      · obtain ⟨x, h1, h2⟩ := hl (k, v) (by simp)
        have hs := h.sl t
        simp only at h1 h2
        rw [e] at h2
        rw [h2] at hs
        simp only [Slots.get, if_pos e, h1]
        exact .c _ _ (avr_c hs)
      · simp only [Slots.get, if_neg e]
        exact ih fun p hp => hl p (by simp [hp])
  exact this l hl

/-- A block that is not seen is written. -/
theorem R.hid (h : R C ι S σ H a w) {m : Nat} (hm : Hid ι S H w m) (hC : C.w0.heap.size ≤ m) (X : Obj) : R C ι S σ H a { w with heap := w.heap.setIfInBounds m X } := by
  have hb : ∀ b : Nat, b ≠ m → (w.heap.setIfInBounds m X)[b]? = w.heap[b]? := fun b hb => by rw [Array.getElem?_setIfInBounds_ne (Ne.symm hb)]
  refine h.upd ⟨h.fr.os, h.fr.tape, h.fr.output, by simpa using h.fr.size, fun k hk hO => ?_⟩
    (fun i o e => ⟨o, e, Kept.refl _ _ _⟩) (fun b o x hs hx => ⟨hs, ?_⟩) (fun _ h => h)
    (fun i => .inl ⟨rfl, rfl, fun ho => ?_⟩) h.hr.inj h.hr.disj (fun i hi => by simpa using h.hr.lt i hi) (fun b hb => by simpa using h.hr.slt b hb) h.own h.sup h.loc
  · show (w.heap.setIfInBounds m X)[k]? = _
    rw [hb k (by omega)]; exact h.fr.block k hk hO
  · rw [cell_block (w := w) (show (w.heap.setIfInBounds m X)[b]? = w.heap[b]? from hb b (fun e => hm.2.1 (e ▸ hs)))]; exact hx
  · exact hb _ (fun e => hm.2.2 ⟨i, ho, e⟩)
theorem Hid.hid {m b : Nat} (hb : Hid ι S H w b) (X : Obj) : Hid ι S H { w with heap := w.heap.setIfInBounds m X } b := ⟨by simpa using hb.1, hb.2.1, hb.2.2⟩

/-- A new block that is not seen. -/
theorem R.newhid (h : R C ι S σ H a w) (X : Obj) : R C ι S σ H a (w.alloc X) ∧ Hid ι S H (w.alloc X) w.heap.size := by
  have hb : ∀ b : Nat, b < w.heap.size → (w.alloc X).heap[b]? = w.heap[b]? := fun b hb => by
    show (w.heap.push X)[b]? = _
    rw [Array.getElem?_push, if_neg (by omega)]
  have hsz : (w.alloc X).heap.size = w.heap.size + 1 := by show (w.heap.push X).size = _; simp
  refine ⟨h.upd ⟨h.fr.os, h.fr.tape, h.fr.output, by rw [hsz]; exact Nat.le_succ_of_le h.fr.size, fun k hk hO => ?_⟩
    (fun i o e => ⟨o, e, Kept.refl _ _ _⟩) (fun b o x hs hx => ⟨hs, ?_⟩) (fun _ h => h)
    (fun i => .inl ⟨rfl, rfl, fun ho => hb _ (h.hr.lt i ho)⟩) h.hr.inj h.hr.disj (fun i hi => by rw [hsz]; exact Nat.lt_succ_of_lt (h.hr.lt i hi)) (fun b hb => by rw [hsz]; exact Nat.lt_succ_of_lt (h.hr.slt b hb)) h.own h.sup h.loc,
    by rw [hsz]; omega, fun hS => ?_, fun ⟨id, ho, e⟩ => ?_⟩
  · rw [hb k (Nat.lt_of_lt_of_le hk h.fr.size)]; exact h.fr.block k hk hO
  · rw [cell_block (w := w) (hb b (h.hr.slt b hs))]; exact hx
  · have := h.hr.slt _ hS; omega
  · have := h.hr.lt id ho; omega

/-- A row that was not seen is taken in as an own one. -/
theorem R.adopt (h : R C ι S σ H a w) {id e : Nat} {xs : List CV} {L : Loc} (hn : LH.get H id = none) (hrow : RowR L S w e xs) (hh : L.isnil = false → Hid ι S H w L.block) :
    R (C.now w (updL ι id L) S (LH.set H id (.row e xs))) (updL ι id L) S σ (LH.set H id (.row e xs)) a w := by
  have ho1 : ∀ j, j ≠ id → Owned (updL ι id L) (LH.set H id (.row e xs)) j → Owned ι H j := fun j hj hw => hw.of_eq (by rw [LH.get_set, if_neg hj]) (updL_ne ι L hj)
  have hoi : Owned (updL ι id L) (LH.set H id (.row e xs)) id → L.isnil = false := fun hw => by
    unfold Owned at hw
    rw [LH.get_set, if_pos rfl, updL_same] at hw
    exact hw
  have hr : HR (updL ι id L) S (LH.set H id (.row e xs)) w := by
    refine h.hr.upd (fun i o hg => ⟨o, ?_, ?_⟩) (fun b o x hs hx => ⟨hs, hx⟩) (fun i => ?_) (fun i j hi hj he => ?_) (fun i hi => ?_) (fun i hi => ?_) h.hr.slt
    · have : i ≠ id := fun e => by subst e; rw [hn] at hg; cases hg
      rw [LH.get_set, if_neg this]; exact hg
    · have : i ≠ id := fun e => by subst e; rw [hn] at hg; cases hg
      have hu := updL_ne ι L this
      cases o <;> simp [Kept, hu]
    · by_cases hi : i = id
      · subst hi
        right
        unfold NewAt
        rw [LH.get_set, if_pos rfl, updL_same]
        exact hrow
      · left
        exact ⟨by rw [LH.get_set, if_neg hi], updL_ne ι L hi, fun _ => rfl⟩
    · by_cases h1 : i = id <;> by_cases h2 : j = id
      · rw [h1, h2]
      · subst h1
        have hL := hoi hi
        rw [updL_same, updL_ne ι L h2] at he
        exact absurd ⟨j, ho1 j h2 hj, he.symm⟩ (hh hL).2.2
      · subst h2
        have hL := hoi hj
        rw [updL_same, updL_ne ι L h1] at he
        exact absurd ⟨i, ho1 i h1 hi, he⟩ (hh hL).2.2
      · rw [updL_ne ι L h1, updL_ne ι L h2] at he
        exact h.hr.inj i j (ho1 i h1 hi) (ho1 j h2 hj) he
    · by_cases h1 : i = id
      · subst h1; rw [updL_same]; exact (hh (hoi hi)).2.1
      · rw [updL_ne ι L h1]; exact h.hr.disj i (ho1 i h1 hi)
    · by_cases h1 : i = id
      · subst h1; rw [updL_same]; exact (hh (hoi hi)).1
      · rw [updL_ne ι L h1]; exact h.hr.lt i (ho1 i h1 hi)
  refine ⟨Fr.refl _ _, hr, fun t => (h.sl t).mono (fun b o x hs hx => ⟨hs, hx⟩) (fun i o hg => ⟨o, ?_, ?_⟩), fun i ho => .inl ⟨i, ho, rfl⟩, fun b hb => .inl hb, fun b hb => hb, fun _ _ _ _ _ => rfl, h.size, h.defs⟩
  · have : i ≠ id := fun e => by subst e; rw [hn] at hg; cases hg
    rw [LH.get_set, if_neg this]; exact hg
  · have : i ≠ id := fun e => by subst e; rw [hn] at hg; cases hg
    have hu := updL_ne ι L this
    cases o <;> simp [Kept, hu]
theorem OwnB.adopt {id e : Nat} {xs : List CV} {L : Loc} {b : Nat} (h : OwnB (updL ι id L) (LH.set H id (.row e xs)) b) : OwnB ι H b ∨ (L.isnil = false ∧ L.block = b) := by
  obtain ⟨j, ho, hb⟩ := h
  by_cases h1 : j = id
  · subst h1
    unfold Owned at ho
    rw [LH.get_set, if_pos rfl, updL_same] at ho
    rw [updL_same] at hb
    exact .inr ⟨ho, hb⟩
  · rw [updL_ne ι L h1] at hb
    exact .inl ⟨j, ho.of_eq (by rw [LH.get_set, if_neg h1]) (updL_ne ι L h1), hb⟩

/-! ### Maps -/
/-- The first entry of a key. -/
noncomputable def findL (k : Value) : List MapEntry → Nat → Option (Nat × Value)
  | [], _ => none
  | e :: es, i => open Classical in if e.key = k then some (i, e.val) else findL k es (i + 1)
noncomputable def lkL (z : Value) (es : List MapEntry) (k : Value) : Value := match findL k es 0 with | some (_, v) => v | none => z
/-- A type's keys, and that they are found. -/
structure Keys (P : Program) (kt : TypeId) (K : Value → Prop) : Prop where
  check : ∀ em k w, K k → (Instr.checkKey em 10000 kt k).run P w = .ok () w
  find : ∀ k es w, K k → (∀ e ∈ es, K e.key) → (Instr.findKey kt k es).run P w = .ok (findL k es 0) w
  stay : ∀ k w, K k → (Instr.keyThatStays k k).run P w = .ok k w
theorem findL_shift (k : Value) : ∀ (es : List MapEntry) (i : Nat), findL k es i = (findL k es 0).map fun p => (p.1 + i, p.2)
  | [], _ => rfl
  | e :: es, i => by
    unfold findL
    split
    · simp
    · rw [findL_shift k es (i + 1), findL_shift k es (0 + 1)]
      cases findL k es 0 <;> simp [Nat.add_comm, Nat.add_left_comm]
theorem findL_some {k : Value} : ∀ {es : List MapEntry} {j : Nat} {v : Value}, findL k es 0 = some (j, v) → ∃ e, es[j]? = some e ∧ e.key = k ∧ e.val = v ∧ ∀ i, i < j → ∀ e', es[i]? = some e' → e'.key ≠ k
  | [], _, _, h => by simp [findL] at h
  | e :: es, j, v, h => by
    unfold findL at h
    by_cases hk : e.key = k
    · rw [if_pos hk] at h
      injection h with h; injection h with h1 h2
      subst h1
      exact ⟨e, rfl, hk, h2, fun i hi => by omega⟩
    · rw [if_neg hk, findL_shift] at h
      cases hf : findL k es 0 with
      | none => rw [hf] at h; cases h
      | some p =>
        obtain ⟨j', v'⟩ := p
        rw [hf] at h
        simp only [Option.map_some] at h
        injection h with h; injection h with h1 h2
        subst h1 h2
        obtain ⟨e', h1, h2, h3, h4⟩ := findL_some hf
        refine ⟨e', by simpa using h1, h2, h3, fun i hi e'' he => ?_⟩
        match i with
        | 0 => simp at he; subst he; exact hk
        | i + 1 => exact h4 i (by omega) e'' (by simpa using he)
theorem findL_set {k : Value} {z v : Value} (k' : Value) : ∀ (es : List MapEntry) (j : Nat) (x : Value), findL k es 0 = some (j, x) →
    lkL z (es.modify j fun e => { e with key := k, val := v }) k' = open Classical in if k' = k then v else lkL z es k'
  | [], _, _, h => by simp [findL] at h
  | e :: es, j, x, h => by
    have h0 := h
    unfold findL at h
    by_cases hk : e.key = k
    · rw [if_pos hk] at h
      injection h with h; injection h with h1 h2
      subst h1
      simp only [List.modify_zero_cons, lkL, findL]
      by_cases hk' : k' = k
      · rw [if_pos hk'.symm, if_pos hk']
      · rw [if_neg (Ne.symm hk'), if_neg hk', if_neg (by rw [hk]; exact Ne.symm hk')]
    · rw [if_neg hk, findL_shift] at h
      cases hf : findL k es 0 with
      | none => rw [hf] at h; cases h
      | some p =>
        obtain ⟨j', v'⟩ := p
        rw [hf] at h
        simp only [Option.map_some] at h
        injection h with h; injection h with h1 h2
        subst h1
        have ih := findL_set (z := z) (v := v) k' es j' v' hf
        rw [show j' + (0 + 1) = j' + 1 from rfl, List.modify_succ_cons]
        unfold lkL at ih ⊢
        unfold findL
        by_cases hk' : e.key = k'
        · rw [if_pos hk', if_pos hk', if_neg (by rw [← hk']; exact hk)]
        · rw [if_neg hk', if_neg hk']
          rw [findL_shift k' _ (0 + 1), findL_shift k' es (0 + 1)]
          revert ih
          cases findL k' (es.modify j' fun e => { e with key := k, val := v }) 0 <;> cases findL k' es 0 <;> exact fun ih => ih
theorem findL_push {k : Value} {z v : Value} {b : Nat} (k' : Value) : ∀ (es : List MapEntry), findL k es 0 = none →
    lkL z (es ++ [⟨k, v, b⟩]) k' = open Classical in if k' = k then v else lkL z es k'
  | [], h => by
    simp only [List.nil_append, lkL, findL]
    by_cases hk' : k' = k
    · rw [if_pos hk'.symm, if_pos hk']
    · rw [if_neg (Ne.symm hk'), if_neg hk']
  | e :: es, h => by
    unfold findL at h
    by_cases hk : e.key = k
    · rw [if_pos hk] at h; cases h
    · rw [if_neg hk, findL_shift] at h
      have hf : findL k es 0 = none := by
        cases hf : findL k es 0 with
        | none => rfl
        | some p => rw [hf] at h; cases h
      have ih := findL_push (z := z) (v := v) (b := b) k' es hf
      unfold lkL at ih ⊢
      rw [List.cons_append]
      unfold findL
      by_cases hk' : e.key = k'
      · rw [if_pos hk', if_pos hk', if_neg (by rw [← hk']; exact hk)]
      · rw [if_neg hk', if_neg hk']
        rw [findL_shift k' _ (0 + 1), findL_shift k' es (0 + 1)]
        revert ih
        cases findL k' (es ++ [⟨k, v, b⟩]) 0 <;> cases findL k' es 0 <;> exact fun ih => ih
/-- In block m lies a map whose keys are of K, and whose values are g's. -/
def MapAt (w : World) (m : Nat) (K : Value → Prop) (z : Value) (g : Value → Value) : Prop :=
  ∃ es clock, w.heap[m]? = some (.map es clock) ∧ (∀ e ∈ es.toList, K e.key) ∧ ∀ k, lkL z es.toList k = g k
theorem MapAt.new (w : World) (K : Value → Prop) (z : Value) : MapAt (w.alloc (.map #[] 0)) w.heap.size K z fun _ => z :=
  ⟨#[], 0, by show (w.heap.push _)[w.heap.size]? = _; simp, by simp, fun k => rfl⟩
theorem MapAt.same {m : Nat} {K : Value → Prop} {z : Value} {g : Value → Value} (h : MapAt w m K z g) (e : w'.heap[m]? = w.heap[m]?) : MapAt w' m K z g := by
  obtain ⟨es, c, h1, h2⟩ := h
  exact ⟨es, c, by rw [e]; exact h1, h2⟩
theorem MapAt.look {P : Program} {mt kt et m : Nat} {K : Value → Prop} {z : Value} {g : Value → Value} (h : MapAt w m K z g) (hm : P.underlying mt = some (.map kt et)) (hK : Keys P kt K) (hz : (zeroValue et).run P w = .ok z w) {k : Value} (hk : K k) :
    (Instr.lookup mt (.map (some m)) k false).run P w = .ok (g k) w := by
  obtain ⟨es, c, h1, h2, h3⟩ := h
  have hf := hK.find k es.toList w hk h2
  have hg := h3 k
  unfold lkL at hg
  cases hx : findL k es.toList 0 with
  | none =>
    rw [hx] at hf hg
    simp only at hg
    subst hg
    simp [Instr.lookup, run_underlying hm, MapKept.run_getObj_map h1, hK.check _ _ _ hk, hf, hz, Result.andThen]
  | some p =>
    obtain ⟨j, v⟩ := p
    rw [hx] at hf hg
    simp only at hg
    subst hg
    simp [Instr.lookup, run_underlying hm, MapKept.run_getObj_map h1, hK.check _ _ _ hk, hf, Result.andThen]
theorem MapAt.put {P : Program} {mt kt et m : Nat} {K : Value → Prop} {z : Value} {g : Value → Value} (h : MapAt w m K z g) (hm : P.underlying mt = some (.map kt et)) (hK : Keys P kt K) {k : Value} (hk : K k) (v : Value) :
    ∃ X, (Instr.mapUpdate mt (.map (some m)) k v).run P w = .ok () { w with heap := w.heap.setIfInBounds m X } ∧ MapAt { w with heap := w.heap.setIfInBounds m X } m K z (fun k' => open Classical in if k' = k then v else g k') := by
  obtain ⟨es, c, h1, h2, h3⟩ := h
  have hf := hK.find k es.toList w hk h2
  have hlt : m < w.heap.size := (Array.getElem?_eq_some_iff.1 h1).1
  cases hx : findL k es.toList 0 with
  | none =>
    rw [hx] at hf
    refine ⟨.map (es.push ⟨k, v, c⟩) (c + 1), ?_, es.push ⟨k, v, c⟩, c + 1, ?_, fun e he => ?_, fun k' => ?_⟩
    · simp [Instr.mapUpdate, run_underlying hm, MapKept.run_getObj_map h1, hK.check _ _ _ hk, hf, MapKept.run_setObj_map _ h1, Result.andThen]
    · show (w.heap.setIfInBounds m _)[m]? = _
      rw [Array.getElem?_setIfInBounds_self_of_lt hlt]
    · simp only [Array.toList_push, List.mem_append, List.mem_singleton] at he
      rcases he with he | rfl
      · exact h2 e he
      · exact hk
    · rw [Array.toList_push, findL_push k' _ hx, h3]
  | some p =>
    obtain ⟨j, x⟩ := p
    rw [hx] at hf
    obtain ⟨e, he, hek, hev, _⟩ := findL_some hx
    have he' : es[j]? = some e := by rw [← Array.getElem?_toList]; exact he
    refine ⟨.map (es.modify j fun e => { e with key := k, val := v }) c, ?_, es.modify j fun e => { e with key := k, val := v }, c, ?_, fun e he => ?_, fun k' => ?_⟩
    · simp [Instr.mapUpdate, run_underlying hm, MapKept.run_getObj_map h1, hK.check _ _ _ hk, hf, he', hek, hK.stay _ _ hk, MapKept.run_setObj_map _ h1, Result.andThen]
    · show (w.heap.setIfInBounds m _)[m]? = _
      rw [Array.getElem?_setIfInBounds_self_of_lt hlt]
    · obtain ⟨i, hi⟩ := List.mem_iff_getElem?.1 he
      rw [Array.getElem?_toList, Array.getElem?_modify] at hi
      by_cases hij : j = i
      · rw [if_pos hij] at hi
        obtain ⟨y, hy1, hy2⟩ := Option.map_eq_some_iff.1 hi
        subst hy2
        exact hk
      · rw [if_neg hij] at hi
        exact h2 e (Array.mem_toList_iff.2 (Array.mem_of_getElem? hi))
    · rw [Array.toList_modify, findL_set k' _ j x hx, h3]
theorem keys_int {P : Program} {kt : TypeId} {q : IntKind} (hu : P.underlying kt = some (.int q)) : Keys P kt (fun k => ∃ n, k = .int q n) where
  check := fun em k w ⟨n, hk⟩ => by subst hk; exact MapKept.run_checkKey hu (by simp [MapKept.IsKey]) em 9999
  find := fun k es w ⟨n, hk⟩ he => by
    subst hk
    have : ∀ (es : List MapEntry) (i : Nat), (∀ e ∈ es, ∃ n, e.key = .int q n) → Instr.findNow (.int q) (.int q n) es i = some (findL (.int q n) es i) := by
      intro es
      induction es with
      | nil => intro i _; rfl
      | cons e es ih =>
        intro i he
        obtain ⟨n', hn'⟩ := he e (by simp)
        unfold Instr.findNow findL
        by_cases hnn : n = n'
        · subst hnn
          simp [Instr.sameNow, hn']
        · have h1 : ¬ (Value.int q n' = Value.int q n) := fun h => by injection h with _ h; exact hnn h.symm
          rw [hn', if_neg h1, ← ih (i + 1) fun e he' => he e (by simp [he'])]
          have : (n == n') = false := by simpa using hnn
          simp [Instr.sameNow, this]
    simp [Instr.findKey, run_underlying hu, this es 0 he, Result.andThen]
  stay := fun k w ⟨n, hk⟩ => by subst hk; exact MapKept.run_keyThatStays (d := .int q) (by simp [MapKept.IsKey])

/-! ### Steps by hand -/
def Has (σ : Slots) : List (Nat × AV) → Prop
  | [] => True
  | (t, v) :: l => Slots.get σ t = v ∧ Has σ l
theorem R.weak {l : List (Nat × AV)} (h : R C ι S σ H a w) (hl : Has σ l) : R C ι S l H a w := by
  refine ⟨h.fr, h.hr, fun t => ?_, h.own, h.sup, h.sub, h.loc, h.size, h.defs⟩
  induction l with
  | nil => exact AVR.undef _
  | cons p l ih =>
    obtain ⟨k, v⟩ := p
    by_cases e : k = t
    · subst e
      have := h.sl k
      rw [hl.1] at this
      simpa only [Slots.get, if_pos] using this
    · simp only [Slots.get, if_neg e]
      exact ih hl.2
theorem R.drop {l : List (Nat × CV)} (h : R C ι S σ H a w) (hl : Has σ (l.map fun p => (p.1, .c p.2))) : R C ι S (l.map fun p => (p.1, .c p.2)) [] a w := by
  refine h.keep fun p hp => ?_
  induction l with
  | nil => cases hp
  | cons q l ih =>
    rcases List.mem_cons.1 hp with rfl | hp
    · exact ⟨q.2, rfl, hl.1⟩
    · exact ih hl.2 hp
section
variable {P : Program} {Q : Exit → Act → World → Prop} {ops : Array Oper} {rest : List Oper} {o : Oper}
theorem op_val {v : Value} (hg : o.guard = none) (hr : (execOp a.eval o).run P w = .ok (.value v) w') (h : wpList P ops Q rest (a.put o.dst v) w') : wpList P ops Q (o :: rest) a w := by
  have hw : ∀ ys, Region.wanted o ys = true := fun ys => by simp [Region.wanted, hg]
  unfold wpList
  rw [if_pos (hw _)]
  left
  unfold Oper.wp
  rw [hr, Oper.upon_value]
  exact h
theorem op_skip (hg : o.guard = none) (hd : o.dst = none) (hr : (execOp a.eval o).run P w = .ok .skip w') (h : wpList P ops Q rest a w') : wpList P ops Q (o :: rest) a w := by
  have hw : ∀ ys, Region.wanted o ys = true := fun ys => by simp [Region.wanted, hg]
  unfold wpList
  rw [if_pos (hw _)]
  left
  unfold Oper.wp
  rw [hr, Oper.upon_skip, hd]
  exact h
theorem ex_look {mt : TypeId} {x y : Nat} {v : Value} (ho : o.op = .lookup mt (.tmp x) (.tmp y) false) (hr : (Instr.lookup mt (a.tmps.getD x Go.undef) (a.tmps.getD y Go.undef) false).run P w = .ok v w) : (execOp a.eval o).run P w = .ok (.value v) w := by
  unfold execOp
  simp only [ho, Sem.run_bind]
  show ((Instr.lookup mt (a.tmps.getD x Go.undef) (a.tmps.getD y Go.undef) false).run P w).andThen _ = _
  rw [hr]
  rfl
theorem ex_map {mt : TypeId} (ho : o.op = .makeMap mt none) : (execOp a.eval o).run P w = .ok (.value (.map (some w.heap.size))) (w.alloc (.map #[] 0)) := by
  unfold execOp
  simp only [ho, Sem.run_bind]
  rfl
theorem ex_put {mt : TypeId} {x y : Nat} {z : Operand} (ho : o.op = .mapUpdate mt (.tmp x) (.tmp y) z) (hr : (Instr.mapUpdate mt (a.tmps.getD x Go.undef) (a.tmps.getD y Go.undef) (a.eval z)).run P w = .ok () w') : (execOp a.eval o).run P w = .ok .skip w' := by
  unfold execOp
  simp only [ho, Sem.run_bind]
  show ((Instr.mapUpdate mt (a.tmps.getD x Go.undef) (a.tmps.getD y Go.undef) (a.eval z)).run P w).andThen _ = _
  rw [hr]
  rfl
/-- A contract from a walk by hand. -/
theorem CW.hand {f : FuncId} {fn : Func} {c : Code} {args : List Arg} {out : Out} (rs : List (Nat × Option Nat × Mode)) (mss : List (List (Option Nat)))
    (hf : P.funcs[f]? = some fn) (hb : fn.body = some c) (hisf : isFn P f = true) (hret : chkRet P fn.results.toList rs = true) (hn : args.length ≤ fn.ntmps) (h8 : args.length ≤ 8) (hbo : backOK args out.back)
    (hw : ∀ (C : Ctx) (ι : Nat → Loc) (S : Nat → Prop) (a : Act) (w : World), C.n = fn.ntmps → C.O = Handed ι (argsOb argBase args 0) → R C ι S (slotsOf (argsAV argBase args 0) 0) (argsOb argBase args 0) a w →
      c.wp P (fun e a' w' => (e = .normal ∨ e = .ret) ∧ ∃ ι' S' σ' H', R C ι' S' σ' H' a' w' ∧ retW σ' H' rs args mss out) a w) : CW P f args out := by
  refine ⟨hisf, hbo, fun ι S w vals hvl hva hhr => ?_⟩
  refine calls_of_wp hf hb ?_
  have hR := start_R (fn := fn) hn hvl hva hhr
  refine Code.wp_mono (fun e a1 w1 hq => ?_) (hw ⟨w, Handed ι (argsOb argBase args 0), S, ι, fn.ntmps, []⟩ ι S _ w rfl rfl hR)
  obtain ⟨he, ι1, S1, σ1, H1, h1, hrw⟩ := hq
  have fin := And.intro h1.defs (fin_sound (C := ⟨w, Handed ι (argsOb argBase args 0), S, ι, fn.ntmps, []⟩) rfl hret h8 trivial hbo h1 hrw)
  rcases he with rfl | rfl
  · exact fin
  · exact fin
end
end Go.Proofs.Ytcpdnpaedkcebaa.V
