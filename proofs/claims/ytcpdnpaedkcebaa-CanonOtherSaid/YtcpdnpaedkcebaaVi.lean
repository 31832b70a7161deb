/- A small calculus over the model, nine: what is handed over at a call. -/
import Derived.Test.YtcpdnpaedkcebaaVh
namespace Go.Proofs.Ytcpdnpaedkcebaa.V
open Go Go.RowKit
set_option linter.unusedVariables false
set_option linter.unusedSimpArgs false

def isOwn : Option LObj → Prop
  | some (.row _ _) => True
  | some (.obj _) => True
  | _ => False

/-- From one heap to the next something was handed over, under names from lo to hi. -/
structure Lend (H H' : LH) (m : List (Nat × Option Nat)) (lo hi : Nat) : Prop where
  keys : ∀ p ∈ m, lo ≤ p.1 ∧ p.1 < hi
  uniq : ∀ p ∈ m, ∀ q ∈ m, p.1 = q.1 → p = q
  moved : ∀ k i, (k, some i) ∈ m → isOwn (LH.get H i) ∧ LH.get H' i = some .dead
  inj : ∀ k k' i, (k, some i) ∈ m → (k', some i) ∈ m → k = k'
  other : ∀ i, LH.get H' i = LH.get H i ∨ ((∃ k, (k, some i) ∈ m) ∧ LH.get H' i = some .dead)

theorem Lend.refl (H : LH) (lo hi : Nat) : Lend H H [] lo hi :=
  ⟨fun p hp => (by cases hp), fun p hp => (by cases hp), fun k i h => (by cases h), fun k k' i h => (by cases h), fun i => .inl rfl⟩

theorem Lend.wider {H H' : LH} {m : List (Nat × Option Nat)} {lo hi lo' hi' : Nat} (h : Lend H H' m lo hi) (h1 : lo' ≤ lo) (h2 : hi ≤ hi') : Lend H H' m lo' hi' :=
  ⟨fun p hp => by have := h.keys p hp; omega, h.uniq, h.moved, h.inj, h.other⟩

theorem Lend.one (H : LH) {i : Nat} (k : Nat) (hi : isOwn (LH.get H i)) : Lend H (LH.set H i .dead) [(k, some i)] k (k + 1) := by
  refine ⟨fun p hp => ?_, fun p hp q hq _ => ?_, fun k' i' h => ?_, fun k1 k2 i' h1 h2 => ?_, fun j => ?_⟩
  · simp at hp; subst hp; exact ⟨Nat.le_refl _, Nat.lt_succ_self _⟩
  · simp at hp hq; rw [hp, hq]
  · simp at h; obtain ⟨rfl, rfl⟩ := h
    exact ⟨hi, by rw [LH.get_set, if_pos rfl]⟩
  · simp at h1 h2; rw [h1.1, h2.1]
  · rw [LH.get_set]
    by_cases e : j = i
    · subst e; exact .inr ⟨⟨k, by simp⟩, by rw [if_pos rfl]⟩
    · rw [if_neg e]; exact .inl rfl

theorem Lend.nil (H : LH) (k : Nat) : Lend H H [(k, none)] k (k + 1) :=
  ⟨fun p hp => by simp at hp; subst hp; exact ⟨Nat.le_refl _, Nat.lt_succ_self _⟩, fun p hp q hq _ => by simp at hp hq; rw [hp, hq], fun k' i h => by simp at h, fun k1 k2 i h1 h2 => by simp at h1, fun i => .inl rfl⟩

theorem Lend.back {H H' : LH} {m : List (Nat × Option Nat)} {lo hi i : Nat} {o : LObj} (h : Lend H H' m lo hi) (hg : LH.get H' i = some o) (hd : o ≠ .dead) : LH.get H i = some o := by
  rcases h.other i with e | ⟨_, e⟩
  · rw [← e]; exact hg
  · rw [e] at hg; cases hg; exact absurd rfl hd

theorem Lend.append {H H1 H2 : LH} {m m' : List (Nat × Option Nat)} {lo mid hi : Nat} (h : Lend H H1 m lo mid) (h' : Lend H1 H2 m' mid hi) (h1 : lo ≤ mid) (h2 : mid ≤ hi) : Lend H H2 (m ++ m') lo hi := by
  have ownBack : ∀ i, isOwn (LH.get H1 i) → isOwn (LH.get H i) := fun i ho => by
    cases hg : LH.get H1 i with
    | none => rw [hg] at ho; exact ho.elim
    | some o =>
      rw [hg] at ho
      rw [h.back hg (by intro e; subst e; exact ho)]
      exact ho
  refine ⟨fun p hp => ?_, fun p hp q hq e => ?_, fun k i hp => ?_, fun k k' i hp hq => ?_, fun i => ?_⟩
  · rcases List.mem_append.1 hp with hp | hp
    · have := h.keys p hp; omega
    · have := h'.keys p hp; omega
  · rcases List.mem_append.1 hp with hp | hp <;> rcases List.mem_append.1 hq with hq | hq
    · exact h.uniq p hp q hq e
    · have := h.keys p hp; have := h'.keys q hq; omega
    · have := h'.keys p hp; have := h.keys q hq; omega
    · exact h'.uniq p hp q hq e
  · rcases List.mem_append.1 hp with hp | hp
    · refine ⟨(h.moved k i hp).1, ?_⟩
      rcases h'.other i with e | ⟨_, e⟩
      · rw [e]; exact (h.moved k i hp).2
      · exact e
    · exact ⟨ownBack i (h'.moved k i hp).1, (h'.moved k i hp).2⟩
  · rcases List.mem_append.1 hp with hp | hp <;> rcases List.mem_append.1 hq with hq | hq
    · exact h.inj k k' i hp hq
    · have a := (h.moved k i hp).2
      have b := (h'.moved k' i hq).1
      rw [a] at b; exact b.elim
    · have a := (h.moved k' i hq).2
      have b := (h'.moved k i hp).1
      rw [a] at b; exact b.elim
    · exact h'.inj k k' i hp hq
  · rcases h'.other i with e | ⟨⟨k, hk⟩, e⟩
    · rcases h.other i with e2 | ⟨⟨k, hk⟩, e2⟩
      · exact .inl (e.trans e2)
      · exact .inr ⟨⟨k, List.mem_append_left _ hk⟩, e.trans e2⟩
    · exact .inr ⟨⟨k, List.mem_append_right _ hk⟩, e⟩

theorem mem_of_mget {m : List (Nat × Option Nat)} {k : Nat} {o : Option Nat} (h : mget m k = some o) : (k, o) ∈ m := by
  induction m with
  | nil => cases h
  | cons p m ih =>
    obtain ⟨k', o'⟩ := p
    simp only [mget] at h
    split at h
    · rename_i e; cases h; subst e; exact List.mem_cons_self
    · exact List.mem_cons_of_mem _ (ih h)
theorem mget_of_mem {m : List (Nat × Option Nat)} {k : Nat} {o : Option Nat} (hu : ∀ p ∈ m, ∀ q ∈ m, p.1 = q.1 → p = q) (h : (k, o) ∈ m) : mget m k = some o := by
  induction m with
  | nil => cases h
  | cons p m ih =>
    obtain ⟨k', o'⟩ := p
    simp only [mget]
    split
    · rename_i e
      have := hu (k, o) h (k', o') List.mem_cons_self e.symm
      cases this; rfl
    · rename_i e
      refine ih (fun p hp q hq => hu p (List.mem_cons_of_mem _ hp) q (List.mem_cons_of_mem _ hq)) ?_
      rcases List.mem_cons.1 h with h | h
      · cases h; exact absurd rfl e
      · exact h

/-- A cell of a variable that is handed over, and what it is called there. -/
def OcR (H : LH) (m : List (Nat × Option Nat)) (key : Nat) : OC → AV → Prop
  | .cv v, c => c = .c v
  | .own e xs, c => (xs = [] ∧ c = .c .nilsl ∧ (key, none) ∈ m) ∨ ∃ i, c = .osl i 0 xs.length ∧ (key, some i) ∈ m ∧ LH.get H i = some (.row e xs)

theorem OcR.tail {H H1 : LH} {m m' : List (Nat × Option Nat)} {lo hi key : Nat} {oc : OC} {c : AV} (hl : Lend H H1 m lo hi) (h : OcR H1 m' key oc c) : OcR H (m ++ m') key oc c := by
  cases oc with
  | cv v => exact h
  | own e xs =>
    rcases h with ⟨h1, h2, h3⟩ | ⟨i, h1, h2, h3⟩
    · exact .inl ⟨h1, h2, List.mem_append_right _ h3⟩
    · exact .inr ⟨i, h1, List.mem_append_right _ h2, hl.back h3 (by simp)⟩
theorem OcR.more {H : LH} {m m' : List (Nat × Option Nat)} {key : Nat} {oc : OC} {c : AV} (h : OcR H m key oc c) : OcR H (m ++ m') key oc c := by
  cases oc with
  | cv v => exact h
  | own e xs =>
    rcases h with ⟨h1, h2, h3⟩ | ⟨i, h1, h2, h3⟩
    · exact .inl ⟨h1, h2, List.mem_append_left _ h3⟩
    · exact .inr ⟨i, h1, List.mem_append_left _ h2, h3⟩

theorem cellsW_spec (base : Nat) : ∀ (ms : List (Option Nat)) (cs : List AV) (H : LH) (k : Nat) (F : List OC → List (Nat × Option Nat) → LH → Prop), cellsW base H ms cs k F →
    ∃ ocs m H', F ocs m H' ∧ Lend H H' m (base + 1 + k) (base + 1 + k + cs.length) ∧ ocs.length = cs.length ∧ ∀ q, q < cs.length → OcR H m (base + 1 + k + q) (ocs.getD q (.cv .undef)) (cs.getD q (.c .undef)) := by
  intro ms
  induction ms with
  | nil =>
    intro cs H k F h
    cases cs with
    | nil => exact ⟨[], [], H, h, Lend.refl _ _ _, rfl, fun q hq => by simp at hq⟩
    | cons c cs => simp [cellsW] at h
  | cons mo ms ih =>
    intro cs H k F h
    cases cs with
    | nil => cases mo <;> simp [cellsW] at h
    | cons c cs =>
      -- one more in front
      have front : ∀ (H1 : LH) (m1 : List (Nat × Option Nat)) (oc : OC), Lend H H1 m1 (base + 1 + k) (base + 1 + k + 1) → OcR H m1 (base + 1 + k) oc c →
          cellsW base H1 ms cs (k + 1) (fun l m H' => F (oc :: l) (m1 ++ m) H') → ∃ ocs m H', F ocs m H' ∧ Lend H H' m (base + 1 + k) (base + 1 + k + (c :: cs).length) ∧ ocs.length = (c :: cs).length ∧
            ∀ q, q < (c :: cs).length → OcR H m (base + 1 + k + q) (ocs.getD q (.cv .undef)) ((c :: cs).getD q (.c .undef)) := by
        intro H1 m1 oc hl hoc hc
        obtain ⟨ocs, m, H', hF, hl2, hlen, hq⟩ := ih cs H1 (k + 1) _ hc
        refine ⟨oc :: ocs, m1 ++ m, H', hF, ?_, by simp [hlen], fun q hq1 => ?_⟩
        · have : base + 1 + (k + 1) = base + 1 + k + 1 := by omega
          rw [this] at hl2
          have := hl.append hl2 (by omega) (by omega)
          exact this.wider (Nat.le_refl _) (by simp; omega)
        · cases q with
          | zero => exact hoc.more
          | succ q =>
            have := (hq q (by simpa using hq1)).tail hl
            have e : base + 1 + (k + 1) + q = base + 1 + k + (q + 1) := by omega
            rw [e] at this
            exact this
      cases mo with
      | none =>
        cases c with
        | c v => exact front H [] (.cv v) (Lend.refl _ _ _) rfl h
        | _ => simp [cellsW] at h
      | some e =>
        cases c with
        | c v =>
          cases v with
          | nilsl => exact front H [(base + 1 + k, none)] (.own e []) (Lend.nil _ _) (.inl ⟨rfl, rfl, List.mem_cons_self⟩) h
          | _ => simp [cellsW] at h
        | osl i off len =>
          simp only [cellsW] at h
          split at h
          · rename_i e' xs hget
            obtain ⟨⟨rfl, rfl⟩, h⟩ := h
            exact front _ [(base + 1 + k, some i)] (.own e' xs) (Lend.one H _ (by rw [hget]; trivial)) (.inr ⟨i, rfl, List.mem_cons_self, hget⟩) h
          · exact h.elim
        | _ => simp [cellsW] at h

/-- The blocks that may be read at the call: those that may be read here, and the rows that are shown. -/
def Sv (ι : Nat → Loc) (S : Nat → Prop) (V : List Nat) (b : Nat) : Prop := S b ∨ ∃ i ∈ V, (ι i).isnil = false ∧ b = (ι i).block

/-- An argument, and the value that is handed in. -/
def ArgR (ι : Nat → Loc) (S : Nat → Prop) (w : World) (H : LH) (m : List (Nat × Option Nat)) (V : List Nat) (id : Nat) (av : AV) (u : Value) : Arg → Prop
  | .cv v => VR w (Sv ι S V) v u
  | .own e xs => (xs = [] ∧ u = .slice none 0 0 ∧ (id, none) ∈ m) ∨ ∃ i, (id, some i) ∈ m ∧ LH.get H i = some (.row e xs) ∧ SliceAt (ι i) e 0 xs.length u
  | .mutr e xs => ∃ i, (id, some i) ∈ m ∧ LH.get H i = some (.row e xs) ∧ SliceAt (ι i) e 0 xs.length u ∧ av = .osl i 0 xs.length
  | .obj ocs => ∃ i cs, (id, some i) ∈ m ∧ LH.get H i = some (.obj cs) ∧ (u = .pointer (some ⟨(ι i).block, (ι i).off, none⟩) ∧ av = .ref i 0) ∧ ocs.length = cs.length ∧ ocs.length ≤ 15 ∧
      ∀ q, q < ocs.length → OcR H m (id + 1 + q) (ocs.getD q (.cv .undef)) (cs.getD q (.c .undef))

theorem Sv.more {ι : Nat → Loc} {S : Nat → Prop} {V V' : List Nat} {b : Nat} (h : Sv ι S V b) (hs : ∀ i ∈ V, i ∈ V') : Sv ι S V' b := by
  rcases h with h | ⟨i, hi, h1, h2⟩
  · exact .inl h
  · exact .inr ⟨i, hs i hi, h1, h2⟩

theorem ArgR.more {ι : Nat → Loc} {S : Nat → Prop} {w : World} {H : LH} {m m' : List (Nat × Option Nat)} {V V' : List Nat} {id : Nat} {av : AV} {u : Value} {ar : Arg} (h : ArgR ι S w H m V id av u ar) : ArgR ι S w H (m ++ m') (V ++ V') id av u ar := by
  cases ar with
  | cv v => exact VR.mono h fun b o x hs hx => ⟨hs.more fun i hi => List.mem_append_left _ hi, hx⟩
  | own e xs =>
    rcases h with ⟨h1, h2, h3⟩ | ⟨i, h1, h2, h3⟩
    · exact .inl ⟨h1, h2, List.mem_append_left _ h3⟩
    · exact .inr ⟨i, List.mem_append_left _ h1, h2, h3⟩
  | mutr e xs => obtain ⟨i, h1, h2, h3⟩ := h; exact ⟨i, List.mem_append_left _ h1, h2, h3⟩
  | obj ocs => obtain ⟨i, cs, h1, h2, h3, h4, h5, h6⟩ := h; exact ⟨i, cs, List.mem_append_left _ h1, h2, h3, h4, h5, fun q hq => (h6 q hq).more⟩

theorem ArgR.tail {ι : Nat → Loc} {S : Nat → Prop} {w : World} {H H1 : LH} {m m' : List (Nat × Option Nat)} {V V' : List Nat} {lo hi id : Nat} {av : AV} {u : Value} {ar : Arg} (hl : Lend H H1 m lo hi) (h : ArgR ι S w H1 m' V' id av u ar) : ArgR ι S w H (m ++ m') (V ++ V') id av u ar := by
  cases ar with
  | cv v => exact VR.mono h fun b o x hs hx => ⟨hs.more fun i hi => List.mem_append_right _ hi, hx⟩
  | own e xs =>
    rcases h with ⟨h1, h2, h3⟩ | ⟨i, h1, h2, h3⟩
    · exact .inl ⟨h1, h2, List.mem_append_right _ h3⟩
    · exact .inr ⟨i, List.mem_append_right _ h1, hl.back h2 (by simp), h3⟩
  | mutr e xs => obtain ⟨i, h1, h2, h3⟩ := h; exact ⟨i, List.mem_append_right _ h1, hl.back h2 (by simp), h3⟩
  | obj ocs => obtain ⟨i, cs, h1, h2, h3, h4, h5, h6⟩ := h; exact ⟨i, cs, List.mem_append_right _ h1, hl.back h2 (by simp), h3, h4, h5, fun q hq => (h6 q hq).tail hl⟩

section
variable {P : Program} {C : Ctx} {ι : Nat → Loc} {S : Nat → Prop} {σ : Slots} {H : LH} {a : Act} {w : World} {g : Prop}

theorem argW_spec (h : R C ι S σ H a w) (hg : g) {Hc : LH} (hc : ∀ i o, LH.get Hc i = some o → o ≠ .dead → LH.get H i = some o) {id : Nat} {v : AV} {u : Value} {md : Mode} {F : Arg → List (Nat × Option Nat) → List Nat → LH → Prop}
    (hv : AVR ι H S w v u) (hw : argW g Hc id v md F) : ∃ ar m V H', F ar m V H' ∧ Lend Hc H' m id (id + 64) ∧ ArgR ι S w Hc m V id v u ar ∧ ∀ i ∈ V, ∃ e xs, LH.get H i = some (.row e xs) := by
  have s0 : ∀ {c : CV}, VR w S c u → VR w (Sv ι S []) c u := fun hh => hh.mono fun b o x hs hx => ⟨.inl hs, hx⟩
  cases md with
  | plain =>
    obtain ⟨v1, hv1, hk⟩ := ung hw hg hv
    split at hk
    · exact ⟨_, _, _, _, hk, Lend.refl _ _ _, s0 (avr_c hv1), fun i hi => by cases hi⟩
    · exact hk.elim
  | view esz =>
    obtain ⟨v1, hv1, hk⟩ := ung hw hg hv
    split at hk
    · refine ⟨_, _, _, _, hk, Lend.refl _ _ _, ?_, fun i hi => by cases hi⟩
      rw [avr_nilsl hv1]
      exact .slnil _ _ _
    · exact ⟨_, _, _, _, hk, Lend.refl _ _ _, s0 (avr_c hv1), fun i hi => by cases hi⟩
    · rename_i i off len
      have hO := avr_osl hv1
      split at hk
      · rename_i e xs hget
        have hget' := hc _ _ hget (by simp)
        refine ⟨_, _, _, _, hk, Lend.refl _ _ _, ?_, fun j hj => ?_⟩
        · obtain ⟨hle, hsl⟩ := oslOK_row hO (.inl hget')
          have hlen : ((xs.drop off).take len).length = len := by simp; omega
          show VR w (Sv ι S [i]) _ _
          by_cases hp : 0 < len
          · obtain ⟨hn, ex⟩ := sliceAt_pos hsl hp
            have hr := h.hr.row _ _ _ hget'
            unfold RowR at hr
            rw [if_neg (by simp [hn])] at hr
            obtain ⟨r1, r2, r3, r4⟩ := hr
            have hch : ∀ p : Nat × Nat, ∃ z, p.1 < len → p.2 < e → (w.cell? ⟨(ι i).block, (ι i).off + off * e + (p.1 * e + p.2), none⟩ = some z ∧ VR w S ((((xs.drop off).take len).getD p.1 .undef).cells.getD p.2 .undef) z) := fun p => by
              by_cases hpq : p.1 < len ∧ p.2 < e
              · obtain ⟨z, hz, hzv⟩ := r4 (off + p.1) p.2 (by omega) hpq.2
                refine ⟨z, fun _ _ => ⟨?_, ?_⟩⟩
                · rw [← hz]; congr 2; rw [Nat.add_mul]; omega
                · rw [getD_drop_take _ _ hpq.1]; exact hzv
              · exact ⟨Go.undef, fun a b => absurd ⟨a, b⟩ hpq⟩
            have key : VR w (Sv ι S [i]) (.sl e ((xs.drop off).take len)) (.slice (some ⟨(ι i).block, (ι i).off + off * e, none⟩) ((xs.drop off).take len).length ((ι i).cap - off)) := by
              refine .sl e _ _ _ _ (fun p q => Classical.choose (hch (p, q))) (by rw [hlen]; omega) (fun y hy => r2 y (List.mem_of_mem_drop (List.mem_of_mem_take hy))) (fun p q hp hq => ?_) (fun p q hp hq => ?_)
              · rw [hlen] at hp
                exact ⟨.inr ⟨i, List.mem_cons_self, hn, rfl⟩, (Classical.choose_spec (hch (p, q)) hp hq).1⟩
              · rw [hlen] at hp
                exact (Classical.choose_spec (hch (p, q)) hp hq).2.mono fun b o x hs hx => ⟨.inl hs, hx⟩
            rw [hlen] at key
            rw [ex]; exact key
          · have : len = 0 := by omega
            subst this
            obtain ⟨p, c, ex⟩ := sliceLen hsl
            rw [ex, List.take_zero]
            exact .slnil _ _ _
        · simp at hj; subst hj; exact ⟨_, _, hget'⟩
      · rename_i e xs hget
        have hget' := hc _ _ hget (by simp)
        refine ⟨_, _, _, _, hk, Lend.refl _ _ _, ?_, fun j hj => by cases hj⟩
        obtain ⟨hle, hsl⟩ := oslOK_row hO (.inr hget')
        have hr := h.hr.vrow _ _ _ hget'
        refine s0 ?_
        have hlen : ((xs.drop off).take len).length = len := by simp; omega
        by_cases hp : 0 < len
        · obtain ⟨hn, ex⟩ := sliceAt_pos hsl hp
          unfold VRowR at hr
          rw [if_neg (by simp [hn])] at hr
          generalize hz : Value.slice (some ⟨(ι i).block, (ι i).off, none⟩) xs.length (ι i).cap = z at hr
          cases hr with
          | slnil => simp at hle; omega
          | sl _ _ b o cap us h1 h2 h3 h4 =>
            injection hz with z1 z2 z3
            injection z1 with z1
            injection z1 with zb zo _
            subst zb; subst zo; subst z3
            rw [ex]
            have key : VR w S (.sl e ((xs.drop off).take len)) (.slice (some ⟨(ι i).block, (ι i).off + off * e, none⟩) ((xs.drop off).take len).length ((ι i).cap - off)) := by
              refine .sl e _ _ _ _ (fun p q => us (off + p) q) (by rw [hlen]; omega) (fun y hy => h2 y (List.mem_of_mem_drop (List.mem_of_mem_take hy))) (fun p q hp hq => ?_) (fun p q hp hq => ?_)
              · rw [hlen] at hp
                have := h3 (off + p) q (by omega) hq
                refine ⟨this.1, ?_⟩
                rw [← this.2]; congr 2; rw [Nat.add_mul]; omega
              · rw [hlen] at hp
                rw [getD_drop_take _ _ hp]
                exact h4 (off + p) q (by omega) hq
            rw [hlen] at key
            exact key
        · have : len = 0 := by omega
          subst this
          obtain ⟨p, c, ex⟩ := sliceLen hsl
          rw [ex, List.take_zero]
          exact .slnil _ _ _
      · exact hk.elim
    · exact hk.elim
  | move esz =>
    simp only [argW] at hw
    split at hw
    · refine ⟨_, _, _, _, hw, (Lend.nil _ _).wider (Nat.le_refl _) (by omega), .inl ⟨rfl, avr_nilsl hv, List.mem_cons_self⟩, fun i hi => by cases hi⟩
    · rename_i i off len
      have hO := avr_osl hv
      split at hw
      · rename_i e xs hget
        obtain ⟨⟨rfl, rfl⟩, hk⟩ := hw
        refine ⟨_, _, _, _, hk, (Lend.one _ _ (by rw [hget]; trivial)).wider (Nat.le_refl _) (by omega), .inr ⟨i, List.mem_cons_self, hget, (oslOK_row hO (.inl (hc _ _ hget (by simp)))).2⟩, fun i hi => by cases hi⟩
      · exact hw.elim
    · exact hw.elim
  | mutr =>
    simp only [argW] at hw
    split at hw
    · rename_i i off len
      have hO := avr_osl hv
      split at hw
      · rename_i e xs hget
        obtain ⟨⟨rfl, rfl⟩, hk⟩ := hw
        refine ⟨_, _, _, _, hk, (Lend.one _ _ (by rw [hget]; trivial)).wider (Nat.le_refl _) (by omega), ⟨i, List.mem_cons_self, hget, (oslOK_row hO (.inl (hc _ _ hget (by simp)))).2, rfl⟩, fun i hi => by cases hi⟩
      · exact hw.elim
    · exact hw.elim
  | ptr ms =>
    simp only [argW] at hw
    split at hw
    · rename_i i off
      split at hw
      · rename_i cs hget
        obtain ⟨⟨rfl, hle⟩, hk⟩ := hw
        obtain ⟨ocs, m, H', hF, hl, hlen, hq⟩ := cellsW_spec id ms cs _ 0 _ hk
        have h1 : Lend Hc (LH.set Hc i .dead) [(id, some i)] id (id + 1) := Lend.one Hc _ (by rw [hget]; trivial)
        refine ⟨_, _, _, _, hF, ?_, ⟨i, cs, List.mem_cons_self, hget, ⟨(refOK_obj (avr_ref hv) (hc _ _ hget (by simp))).2, rfl⟩, hlen, by omega, fun q hq1 => ?_⟩, fun i hi => by cases hi⟩
        · have := h1.append (hl.wider (Nat.le_refl _) (Nat.le_refl _)) (by omega) (by omega)
          exact this.wider (Nat.le_refl _) (by omega)
        · have := (hq q (by omega)).tail h1
          simpa using this
      · exact hw.elim
    · exact hw.elim

theorem argsW_spec (h : R C ι S σ H a w) (hg : g) (base : Nat) : ∀ (xs : List (AV × Mode)) (us : List Value) (Hc : LH) (j : Nat) (F : List Arg → List (Nat × Option Nat) → List Nat → LH → Prop),
    us.length = xs.length → (∀ q, q < xs.length → AVR ι H S w (xs.getD q (.c .undef, .plain)).1 (us.getD q Go.undef)) →
    (∀ i o, LH.get Hc i = some o → o ≠ .dead → LH.get H i = some o) → argsW g base Hc xs j F →
    ∃ as m V H', F as m V H' ∧ Lend Hc H' m (base + 64 * j) (base + 64 * (j + xs.length)) ∧ as.length = xs.length ∧
      (∀ q, q < xs.length → ArgR ι S w Hc m V (base + 64 * (j + q)) (xs.getD q (.c .undef, .plain)).1 (us.getD q Go.undef) (as.getD q (.cv .undef))) ∧ ∀ i ∈ V, ∃ e xs, LH.get H i = some (.row e xs) := by
  intro xs
  induction xs with
  | nil =>
    intro us Hc j F hl hch hc hw
    exact ⟨[], [], [], Hc, hw, Lend.refl _ _ _, rfl, fun q hq => by simp at hq, fun i hi => by cases hi⟩
  | cons x xs ih =>
    intro us Hc j F hl hch hc hw
    obtain ⟨x, md⟩ := x
    cases us with
    | nil => simp at hl
    | cons y us =>
      have hv := hch 0 (by simp)
      obtain ⟨ar, m, V, H1, hk, hl1, har, hV⟩ := argW_spec h hg hc hv hw
      obtain ⟨as, m', V', H2, hF, hl2, hlen, hq, hV'⟩ := ih us H1 (j + 1) _ (by simpa using hl) (fun q hq => by simpa using hch (q + 1) (by simpa using hq)) (fun i o hi ho => hc i o (hl1.back hi ho) ho) hk
      refine ⟨_, _, _, _, hF, ?_, by simp [hlen], fun q hq1 => ?_, fun i hi => ?_⟩
      · have e1 : base + 64 * j + 64 = base + 64 * (j + 1) := by omega
        rw [e1] at hl1
        have := hl1.append hl2 (by omega) (by omega)
        exact this.wider (Nat.le_refl _) (by simp; omega)
      · cases q with
        | zero => exact har.more
        | succ q =>
          have := (hq q (by simpa using hq1)).tail hl1 (V := V)
          have e1 : base + 64 * (j + 1 + q) = base + 64 * (j + (q + 1)) := by omega
          rw [e1] at this
          exact this
      · rcases List.mem_append.1 hi with hi | hi
        · exact hV i hi
        · exact hV' i hi

end
end Go.Proofs.Ytcpdnpaedkcebaa.V
