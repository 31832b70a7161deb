/- A small calculus over the model, fourteen: at the head of a loop all is laid under fixed names. -/
import Derived.Test.YtcpdnpaedkcebaaVm
namespace Go.Proofs.Ytcpdnpaedkcebaa.V
open Go Go.RowKit
set_option linter.unusedVariables false
set_option linter.unusedSimpArgs false

/-- What is kept of a slot or cell: a closed value, or a reference to a variable that is kept; a row of ours, under this name. -/
inductive KM where
  | plain
  | own (esz id : Nat)
structure Norm where
  slots : List (Nat × KM)
  objs : List (Nat × List KM)

/-- One cell or slot: what it is now; what became of what; new things; the heap without. -/
def keepW (obs : List (Nat × List KM)) (H : LH) (v : AV) (md : KM) (K : AV → List (Nat × Option Nat) → LH → LH → Prop) : Prop :=
  match md with
  | .plain =>
    match v with
    | .c x => K (.c x) [] [] H
    | .ref i off => (∃ ms, (i, ms) ∈ obs) ∧ K (.ref i off) [] [] H
    | _ => False
  | .own esz id =>
    match v with
    | .c .nilsl => (960000 ≤ id ∧ id < argBase) ∧ K (.osl id 0 0) [(id, none)] [(id, .row esz [])] H
    | .osl i off len =>
      match LH.get H i with
      | some (.row e xs) => ((960000 ≤ id ∧ id < argBase ∨ id = i) ∧ off = 0 ∧ len = xs.length ∧ e = esz) ∧ K (.osl id 0 xs.length) [(id, some i)] [(id, .row esz xs)] (LH.set H i .dead)
      | _ => False
    | _ => False
def keepCellsW (H : LH) : List KM → List AV → (List AV → List (Nat × Option Nat) → LH → LH → Prop) → Prop
  | [], [], K => K [] [] [] H
  | md :: ms, v :: cs, K => keepW [] H v md fun v' m n H' => keepCellsW H' ms cs fun l m' n' H'' => K (v' :: l) (m ++ m') (n ++ n') H''
  | _, _, _ => False
def keepObjsW (H : LH) : List (Nat × List KM) → (List (Nat × Option Nat) → LH → LH → Prop) → Prop
  | [], K => K [] [] H
  | (i, ms) :: l, K =>
    match LH.get H i with
    | some (.obj cs) => keepCellsW (LH.set H i .dead) ms cs fun cs' m n H' => keepObjsW H' l fun m' n' H'' => K ((i, some i) :: m ++ m') ((i, .obj cs') :: n ++ n') H''
    | _ => False
def keepSlotsW (obs : List (Nat × List KM)) (σ : Slots) (H : LH) : List (Nat × KM) → (Slots → List (Nat × Option Nat) → LH → LH → Prop) → Prop
  | [], K => K [] [] [] H
  | (t, md) :: l, K => keepW obs H (Slots.get σ t) md fun v m n H' => keepSlotsW obs σ H' l fun σ' m' n' H'' => K ((t, v) :: σ') (m ++ m') (n ++ n') H''
def normW (N : Norm) (σ : Slots) (H : LH) (K : Slots → LH → Prop) : Prop :=
  keepSlotsW N.objs σ H N.slots fun σ' m n H' => keepObjsW H' N.objs fun m' n' _ => (((m ++ m').map (·.1)).Nodup ∧ ((n ++ n').map (·.1)).Nodup) ∧ K σ' (n ++ n')

structure Lend0 (H H' : LH) (m : List (Nat × Option Nat)) : Prop where
  moved : ∀ k i, (k, some i) ∈ m → isOwn (LH.get H i) ∧ LH.get H' i = some .dead
  inj : ∀ k k' i, (k, some i) ∈ m → (k', some i) ∈ m → k = k'
  other : ∀ i, LH.get H' i = LH.get H i ∨ ((∃ k, (k, some i) ∈ m) ∧ LH.get H' i = some .dead)

theorem Lend.zero {H H' : LH} {m : List (Nat × Option Nat)} {lo hi : Nat} (h : Lend H H' m lo hi) : Lend0 H H' m := ⟨h.moved, h.inj, h.other⟩
theorem Lend0.back {H H' : LH} {m : List (Nat × Option Nat)} {i : Nat} {o : LObj} (h : Lend0 H H' m) (hg : LH.get H' i = some o) (hd : o ≠ .dead) : LH.get H i = some o := by
  rcases h.other i with e | ⟨_, e⟩
  · rw [← e]; exact hg
  · rw [e] at hg; cases hg; exact absurd rfl hd
theorem Lend0.append {H H1 H2 : LH} {m m' : List (Nat × Option Nat)} (h : Lend0 H H1 m) (h' : Lend0 H1 H2 m') : Lend0 H H2 (m ++ m') := by
  have ownBack : ∀ i, isOwn (LH.get H1 i) → isOwn (LH.get H i) := fun i ho => by
    cases hg : LH.get H1 i with
    | none => rw [hg] at ho; exact ho.elim
    | some o =>
      rw [hg] at ho
      rw [h.back hg (by intro e; subst e; exact ho)]
      exact ho
  refine ⟨fun k i hp => ?_, fun k k' i hp hq => ?_, fun i => ?_⟩
  · rcases List.mem_append.1 hp with hp | hp
    · refine ⟨(h.moved k i hp).1, ?_⟩
      rcases h'.other i with e | ⟨_, e⟩
      · rw [e]; exact (h.moved k i hp).2
      · exact e
    · exact ⟨ownBack i (h'.moved k i hp).1, (h'.moved k i hp).2⟩
  · rcases List.mem_append.1 hp with hp | hp <;> rcases List.mem_append.1 hq with hq | hq
    · exact h.inj k k' i hp hq
    · have a := (h.moved k i hp).2
      have b := (h'.moved k' i hq).1
      rw [a] at b; exact b.elim
    · have a := (h.moved k' i hq).2
      have b := (h'.moved k i hp).1
      rw [a] at b; exact b.elim
    · exact h'.inj k k' i hp hq
  · rcases h'.other i with e | ⟨⟨k, hk⟩, e⟩
    · rcases h.other i with e2 | ⟨⟨k, hk⟩, e2⟩
      · exact .inl (e.trans e2)
      · exact .inr ⟨⟨k, List.mem_append_left _ hk⟩, e.trans e2⟩
    · exact .inr ⟨⟨k, List.mem_append_right _ hk⟩, e⟩
theorem Lend0.lend {H H' : LH} {m : List (Nat × Option Nat)} (h : Lend0 H H' m) (hn : (m.map (·.1)).Nodup) : ∃ hi, Lend H H' m 0 hi := by
  have hb : ∃ hi, ∀ p ∈ m, p.1 < hi := by
    clear h hn
    induction m with
    | nil => exact ⟨0, fun p hp => by cases hp⟩
    | cons x m ih =>
      obtain ⟨hi, hx⟩ := ih
      refine ⟨max hi (x.1 + 1), fun p hp => ?_⟩
      rcases List.mem_cons.1 hp with rfl | hp
      · omega
      · have := hx p hp; omega
  obtain ⟨hi, hb⟩ := hb
  refine ⟨hi, fun p hp => ⟨Nat.zero_le _, hb p hp⟩, ?_, h.moved, h.inj, h.other⟩
  clear h hb
  induction m with
  | nil => intro p hp; cases hp
  | cons x m ih =>
    simp only [List.map_cons, List.nodup_cons] at hn
    intro p hp q hq e
    rcases List.mem_cons.1 hp with rfl | hp1 <;> rcases List.mem_cons.1 hq with rfl | hq1
    · rfl
    · exact absurd (List.mem_map.2 ⟨q, hq1, e.symm⟩) hn.1
    · exact absurd (List.mem_map.2 ⟨p, hp1, e⟩) hn.1
    · exact ih hn.2 p hp1 q hq1 e

/-- What a kept slot or cell is, as handed on: v now, before v0. -/
def KR (obs : List (Nat × List KM)) (H : LH) (m : List (Nat × Option Nat)) (n : LH) (v v0 : AV) : Prop :=
  (∃ x, v = .c x ∧ v0 = .c x) ∨ (∃ i off ms, v = .ref i off ∧ v0 = .ref i off ∧ (i, ms) ∈ obs) ∨
  (∃ key e xs, v = .osl key 0 xs.length ∧ (key, LObj.row e xs) ∈ n ∧ ((xs = [] ∧ v0 = .c .nilsl ∧ (key, none) ∈ m) ∨ ∃ i', v0 = .osl i' 0 xs.length ∧ (key, some i') ∈ m ∧ LH.get H i' = some (.row e xs)))
/-- New things are rows that were. -/
def NR (H : LH) (m : List (Nat × Option Nat)) (n : LH) : Prop :=
  ∀ k o, (k, o) ∈ n → (960000 ≤ k ∧ k < argBase ∨ ∃ i, (k, some i) ∈ m ∧ k = i) ∧ ((∃ e xs, o = .row e xs ∧ ((xs = [] ∧ (k, none) ∈ m) ∨ ∃ i, (k, some i) ∈ m ∧ LH.get H i = some (.row e xs))) ∨
    (∃ cs cs2, o = .obj cs ∧ (k, some k) ∈ m ∧ LH.get H k = some (.obj cs2) ∧ cs.length = cs2.length))

theorem KR.up {obs : List (Nat × List KM)} {H H1 : LH} {m m' : List (Nat × Option Nat)} {n n' : LH} {v v0 : AV} (h : KR obs H m n v v0) : KR obs H (m ++ m') (n ++ n') v v0 := by
  rcases h with h | h | ⟨key, e, xs, h1, h2, h3⟩
  · exact .inl h
  · exact .inr (.inl h)
  · refine .inr (.inr ⟨key, e, xs, h1, List.mem_append_left _ h2, ?_⟩)
    rcases h3 with ⟨a, b, c⟩ | ⟨i', a, b, c⟩
    · exact .inl ⟨a, b, List.mem_append_left _ c⟩
    · exact .inr ⟨i', a, List.mem_append_left _ b, c⟩
theorem KR.tail {obs : List (Nat × List KM)} {H H1 : LH} {m m' : List (Nat × Option Nat)} {n n' : LH} {v v0 : AV} (hl : Lend0 H H1 m) (h : KR obs H1 m' n' v v0) : KR obs H (m ++ m') (n ++ n') v v0 := by
  rcases h with h | h | ⟨key, e, xs, h1, h2, h3⟩
  · exact .inl h
  · exact .inr (.inl h)
  · refine .inr (.inr ⟨key, e, xs, h1, List.mem_append_right _ h2, ?_⟩)
    rcases h3 with ⟨a, b, c⟩ | ⟨i', a, b, c⟩
    · exact .inl ⟨a, b, List.mem_append_right _ c⟩
    · exact .inr ⟨i', a, List.mem_append_right _ b, hl.back c (by simp)⟩
theorem NR.append {H H1 : LH} {m m' : List (Nat × Option Nat)} {n n' : LH} (hl : Lend0 H H1 m) (h : NR H m n) (h' : NR H1 m' n') : NR H (m ++ m') (n ++ n') := by
  intro k o hk
  rcases List.mem_append.1 hk with hk | hk
  · obtain ⟨h1, h2⟩ := h k o hk
    refine ⟨h1.imp id (fun ⟨i, a, b⟩ => ⟨i, List.mem_append_left _ a, b⟩), ?_⟩
    rcases h2 with ⟨e, xs, a, b⟩ | ⟨cs, cs2, a, b, c, d⟩
    · refine .inl ⟨e, xs, a, ?_⟩
      rcases b with ⟨b, c⟩ | ⟨i, b, c⟩
      · exact .inl ⟨b, List.mem_append_left _ c⟩
      · exact .inr ⟨i, List.mem_append_left _ b, c⟩
    · exact .inr ⟨cs, cs2, a, List.mem_append_left _ b, c, d⟩
  · obtain ⟨h1, h2⟩ := h' k o hk
    refine ⟨h1.imp id (fun ⟨i, a, b⟩ => ⟨i, List.mem_append_right _ a, b⟩), ?_⟩
    rcases h2 with ⟨e, xs, a, b⟩ | ⟨cs, cs2, a, b, c, d⟩
    · refine .inl ⟨e, xs, a, ?_⟩
      rcases b with ⟨b, c⟩ | ⟨i, b, c⟩
      · exact .inl ⟨b, List.mem_append_right _ c⟩
      · exact .inr ⟨i, List.mem_append_right _ b, hl.back c (by simp)⟩
    · exact .inr ⟨cs, cs2, a, List.mem_append_right _ b, hl.back c (by simp), d⟩
theorem Lend0.refl (H : LH) : Lend0 H H [] := ⟨fun k i h => (by cases h), fun k k' i h => (by cases h), fun i => .inl rfl⟩

theorem keepW_spec {obs : List (Nat × List KM)} {H : LH} {v : AV} {md : KM} {K : AV → List (Nat × Option Nat) → LH → LH → Prop} (h : keepW obs H v md K) :
    ∃ v' m n H', K v' m n H' ∧ Lend0 H H' m ∧ KR obs H m n v' v ∧ NR H m n ∧ (∀ k o, (k, o) ∈ n → ∃ e xs, o = .row e xs) := by
  cases md with
  | plain =>
    simp only [keepW] at h
    split at h
    · exact ⟨_, _, _, _, h, Lend0.refl _, .inl ⟨_, rfl, rfl⟩, fun k o hk => (by cases hk), fun k o hk => (by cases hk)⟩
    · obtain ⟨⟨ms, hm⟩, h⟩ := h
      exact ⟨_, _, _, _, h, Lend0.refl _, .inr (.inl ⟨_, _, ms, rfl, rfl, hm⟩), fun k o hk => (by cases hk), fun k o hk => (by cases hk)⟩
    · exact h.elim
  | own esz id =>
    simp only [keepW] at h
    split at h
    · obtain ⟨hid, h⟩ := h
      refine ⟨_, _, _, _, h, (Lend.nil H id).zero, .inr (.inr ⟨id, esz, [], rfl, List.mem_cons_self, .inl ⟨rfl, rfl, List.mem_cons_self⟩⟩), fun k o hk => ?_, fun k o hk => ?_⟩
      · simp at hk; obtain ⟨rfl, rfl⟩ := hk
        exact ⟨.inl hid, .inl ⟨_, _, rfl, .inl ⟨rfl, List.mem_cons_self⟩⟩⟩
      · simp at hk; exact ⟨_, _, hk.2⟩
    · rename_i i off len
      split at h
      · rename_i e xs hget
        obtain ⟨⟨hid, rfl, rfl, rfl⟩, h⟩ := h
        refine ⟨_, _, _, _, h, (Lend.one H id (by rw [hget]; trivial)).zero, .inr (.inr ⟨id, e, xs, rfl, List.mem_cons_self, .inr ⟨i, rfl, List.mem_cons_self, hget⟩⟩), fun k o hk => ?_, fun k o hk => ?_⟩
        · simp at hk; obtain ⟨rfl, rfl⟩ := hk
          exact ⟨hid.imp (fun h => h) (fun e => ⟨i, List.mem_cons_self, e⟩), .inl ⟨_, _, rfl, .inr ⟨i, List.mem_cons_self, hget⟩⟩⟩
        · simp at hk; exact ⟨_, _, hk.2⟩
      · exact h.elim
    · exact h.elim

theorem keepCellsW_spec : ∀ (ms : List KM) (cs : List AV) (H : LH) (K : List AV → List (Nat × Option Nat) → LH → LH → Prop), keepCellsW H ms cs K →
    ∃ l m n H', K l m n H' ∧ Lend0 H H' m ∧ l.length = cs.length ∧ (∀ q, q < cs.length → KR [] H m n (l.getD q (.c .undef)) (cs.getD q (.c .undef))) ∧ NR H m n ∧ (∀ k o, (k, o) ∈ n → ∃ e xs, o = .row e xs)
  | [], [], H, K, h => ⟨[], [], [], H, h, Lend0.refl _, rfl, fun q hq => by simp at hq, fun k o hk => (by cases hk), fun k o hk => (by cases hk)⟩
  | md :: ms, v :: cs, H, K, h => by
    obtain ⟨v', m, n, H1, h, hl, hk, hn, hr⟩ := keepW_spec h
    obtain ⟨l, m', n', H2, h, hl', hlen, hk', hn', hr'⟩ := keepCellsW_spec ms cs H1 _ h
    refine ⟨_, _, _, _, h, hl.append hl', by simp [hlen], fun q hq => ?_, NR.append hl hn hn', fun k o ho => ?_⟩
    · cases q with
      | zero => exact hk.up (H1 := H1)
      | succ q => exact (hk' q (by simpa using hq)).tail hl
    · rcases List.mem_append.1 ho with ho | ho
      · exact hr k o ho
      · exact hr' k o ho
  | [], _ :: _, _, _, h => h.elim
  | _ :: _, [], _, _, h => h.elim

/-- A kept variable: its cells are what they were. -/
def ObR (H : LH) (m : List (Nat × Option Nat)) (n : LH) : Prop :=
  ∀ k cs, (k, LObj.obj cs) ∈ n → ∃ cs2, LH.get H k = some (.obj cs2) ∧ cs.length = cs2.length ∧ (k, some k) ∈ m ∧ ∀ q, q < cs.length → KR [] H m n (cs.getD q (.c .undef)) (cs2.getD q (.c .undef))

theorem keepObjsW_spec : ∀ (l : List (Nat × List KM)) (H : LH) (K : List (Nat × Option Nat) → LH → LH → Prop), keepObjsW H l K →
    ∃ m n H', K m n H' ∧ Lend0 H H' m ∧ NR H m n ∧ ObR H m n ∧ (∀ i ms, (i, ms) ∈ l → ∃ cs, (i, LObj.obj cs) ∈ n)
  | [], H, K, h => ⟨[], [], H, h, Lend0.refl _, fun k o hk => (by cases hk), fun k o hk => (by cases hk), fun i ms hi => (by cases hi)⟩
  | (i, ms) :: l, H, K, h => by
    simp only [keepObjsW] at h
    split at h
    · rename_i cs hget
      obtain ⟨cs', m, n, H1, h, hl, hlen, hk, hn, hr⟩ := keepCellsW_spec ms cs _ _ h
      obtain ⟨m', n', H2, h, hl', hn', hob, hall⟩ := keepObjsW_spec l H1 _ h
      have h0 : Lend0 H (LH.set H i .dead) [(i, some i)] := (Lend.one H i (by rw [hget]; trivial)).zero
      have h01 : Lend0 H H1 ((i, some i) :: m) := h0.append hl
      refine ⟨_, _, _, h, h01.append hl', ?_, ?_, fun j ms' hj => ?_⟩
      · refine NR.append h01 (fun k o ho => ?_) hn'
        rcases List.mem_cons.1 ho with ho | ho
        · cases ho
          exact ⟨.inr ⟨i, List.mem_cons_self, rfl⟩, .inr ⟨cs', cs, rfl, List.mem_cons_self, hget, hlen⟩⟩
        · obtain ⟨a, b⟩ := hn k o ho
          refine ⟨a.imp id (fun ⟨j, c, d⟩ => ⟨j, List.mem_cons_of_mem _ c, d⟩), ?_⟩
          rcases b with ⟨e, xs, c, d⟩ | ⟨c1, c2, c3, c4, c5, c6⟩
          · refine .inl ⟨e, xs, c, ?_⟩
            rcases d with ⟨d1, d2⟩ | ⟨j, d1, d2⟩
            · exact .inl ⟨d1, List.mem_cons_of_mem _ d2⟩
            · exact .inr ⟨j, List.mem_cons_of_mem _ d1, h0.back d2 (by simp)⟩
          · exact .inr ⟨c1, c2, c3, List.mem_cons_of_mem _ c4, h0.back c5 (by simp), c6⟩
      · intro k c hkc
        rcases List.mem_append.1 (show (k, LObj.obj c) ∈ ((i, .obj cs') :: n) ++ n' from hkc) with ho | ho
        · rcases List.mem_cons.1 ho with ho | ho
          · cases ho
            refine ⟨cs, hget, hlen, List.mem_append_left _ List.mem_cons_self, fun q hq => ?_⟩
            have h1 := (hk q (by omega)).tail (n := [(i, .obj cs')]) h0
            exact h1.up (H1 := H1)
          · obtain ⟨e, xs, hx⟩ := hr k _ ho
            cases hx
        · obtain ⟨cs2, a, b, c', d⟩ := hob k c ho
          exact ⟨cs2, h01.back a (by simp), b, List.mem_append_right _ c', fun q hq => (d q hq).tail h01⟩
      · rcases List.mem_cons.1 hj with hj | hj
        · cases hj; exact ⟨cs', List.mem_cons_self⟩
        · obtain ⟨c, hc⟩ := hall j ms' hj
          exact ⟨c, List.mem_append_right _ hc⟩
    · exact h.elim

theorem keepSlotsW_spec {obs : List (Nat × List KM)} {σ : Slots} : ∀ (l : List (Nat × KM)) (H : LH) (K : Slots → List (Nat × Option Nat) → LH → LH → Prop), keepSlotsW obs σ H l K →
    ∃ σ' m n H', K σ' m n H' ∧ Lend0 H H' m ∧ NR H m n ∧ (∀ k o, (k, o) ∈ n → ∃ e xs, o = .row e xs) ∧ ∀ t, Slots.get σ' t = .c .undef ∨ KR obs H m n (Slots.get σ' t) (Slots.get σ t)
  | [], H, K, h => ⟨[], [], [], H, h, Lend0.refl _, fun k o hk => (by cases hk), fun k o hk => (by cases hk), fun t => .inl rfl⟩
  | (t, md) :: l, H, K, h => by
    obtain ⟨v', m, n, H1, h, hl, hk, hn, hr⟩ := keepW_spec h
    obtain ⟨σ', m', n', H2, h, hl', hn', hr', hs⟩ := keepSlotsW_spec l H1 _ h
    refine ⟨_, _, _, _, h, hl.append hl', NR.append hl hn hn', fun k o ho => ?_, fun t' => ?_⟩
    · rcases List.mem_append.1 ho with ho | ho
      · exact hr k o ho
      · exact hr' k o ho
    · simp only [Slots.get]
      by_cases e : t = t'
      · subst e; rw [if_pos rfl]; exact .inr (hk.up (H1 := H1))
      · rw [if_neg e]
        rcases hs t' with h1 | h1
        · exact .inl h1
        · exact .inr (h1.tail hl)

theorem get_of_mem {l : LH} {k : Nat} {o : LObj} (hu : ∀ p ∈ l, ∀ q ∈ l, p.1 = q.1 → p = q) (h : (k, o) ∈ l) : LH.get l k = some o := by
  induction l with
  | nil => cases h
  | cons x l ih =>
    obtain ⟨i, p⟩ := x
    simp only [LH.get]
    split
    · rename_i e
      have := hu (k, o) h (i, p) List.mem_cons_self e.symm
      cases this; rfl
    · rename_i e
      refine ih (fun p hp q hq => hu p (List.mem_cons_of_mem _ hp) q (List.mem_cons_of_mem _ hq)) ?_
      rcases List.mem_cons.1 h with h | h
      · cases h; exact absurd rfl e
      · exact h

section
variable {P : Program} {C : Ctx} {ι : Nat → Loc} {S : Nat → Prop} {σ : Slots} {H : LH} {a : Act} {w : World}

theorem norm_sound (h : R C ι S σ H a w) {N : Norm} {K : Slots → LH → Prop} (hw : normW N σ H K) : ∃ σ' H' ι', K σ' H' ∧ R C ι' S σ' H' a w := by
  obtain ⟨σ', m, n, H1, hw, hl, hn, hrow, hs⟩ := keepSlotsW_spec _ _ _ hw
  obtain ⟨m', n', H2, ⟨⟨hnd, hnd2⟩, hK⟩, hl', hn', hob, hall⟩ := keepObjsW_spec _ _ _ hw
  have hL0 := hl.append hl'
  obtain ⟨hi, hL⟩ := hL0.lend hnd
  have hN := NR.append hl hn hn'
  have huniq : ∀ p ∈ n ++ n', ∀ q ∈ n ++ n', p.1 = q.1 → p = q := by
    clear hK hs
    generalize n ++ n' = l at hnd2
    induction l with
    | nil => intro p hp; cases hp
    | cons x l ih =>
      simp only [List.map_cons, List.nodup_cons] at hnd2
      intro p hp q hq e
      rcases List.mem_cons.1 hp with rfl | hp1 <;> rcases List.mem_cons.1 hq with rfl | hq1
      · rfl
      · exact absurd (List.mem_map.2 ⟨q, hq1, e.symm⟩) hnd2.1
      · exact absurd (List.mem_map.2 ⟨p, hp1, e⟩) hnd2.1
      · exact ih hnd2.2 p hp1 q hq1 e
  have hobj : ∀ k cs, LH.get (n ++ n') k = some (.obj cs) → ∃ cs2, LH.get H k = some (.obj cs2) ∧ cs.length = cs2.length ∧ (k, some k) ∈ m ++ m' ∧ ∀ q, q < cs.length → KR [] H (m ++ m') (n ++ n') (cs.getD q (.c .undef)) (cs2.getD q (.c .undef)) := fun k cs hg => by
    rcases List.mem_append.1 (mem_of_get hg) with hm | hm
    · obtain ⟨e, xs, hx⟩ := hrow _ _ hm
      cases hx
    · obtain ⟨cs2, a1, a2, a3, a4⟩ := hob k cs hm
      exact ⟨cs2, hl.back a1 (by simp), a2, List.mem_append_right _ a3, fun q hq => (a4 q hq).tail hl⟩
  have hOB : OB H (m ++ m') (n ++ n') := by
    refine ⟨fun k e xs hg => ?_, fun k cs hg => ?_, fun k e xs hg => ?_, fun k hg => ?_⟩
    · obtain ⟨_, h2⟩ := hN k _ (mem_of_get hg)
      rcases h2 with ⟨e', xs', h3, h4⟩ | ⟨cs, cs2, h3, _⟩
      · cases h3; exact h4
      · cases h3
    · obtain ⟨cs2, a1, a2, a3, a4⟩ := hobj k cs hg
      refine ⟨k, cs2, a3, a1, a2, fun q hq => ?_⟩
      rcases a4 q hq with ⟨x, e1, e2⟩ | ⟨i, off, ms, _, _, hmem⟩ | ⟨key, e, xs, e1, hmem, hr⟩
      · exact .inl ⟨x, e1, e2⟩
      · cases hmem
      · exact .inr ⟨key, e, xs, e1, get_of_mem huniq hmem, hr⟩
    · obtain ⟨_, h2⟩ := hN k _ (mem_of_get hg)
      rcases h2 with ⟨e', xs', h3, _⟩ | ⟨cs, cs2, h3, _⟩ <;> cases h3
    · obtain ⟨_, h2⟩ := hN k _ (mem_of_get hg)
      rcases h2 with ⟨e', xs', h3, _⟩ | ⟨cs, cs2, h3, _⟩ <;> cases h3
  have hSv : Sv ι S [] = S := funext fun b => propext ⟨fun h => h.elim id (fun ⟨i, hi, _⟩ => (by cases hi)), .inl⟩
  have hHR := lend_HR (V := []) h.hr hL hOB (fun i hi => by cases hi)
  rw [hSv] at hHR
  refine ⟨σ', n ++ n', lendL ι (m ++ m'), hK, ⟨h.fr, hHR, fun t => ?_, fun id ho => ?_, h.sup, h.sub, fun id ob hg hoo hge => ?_, h.size, h.defs⟩⟩
  · rcases hs t with e | hk
    · rw [e]; exact AVR.undef _
    · have hsl := h.sl t
      rcases hk.up (m' := m') (n' := n') (H1 := H1) with ⟨x, e1, e2⟩ | ⟨i, off, ms, e1, e2, hmem⟩ | ⟨key, e, xs, e1, hmem, hr⟩
      · rw [e1]; rw [e2] at hsl
        exact .c _ _ (avr_c hsl)
      · rw [e1]; rw [e2] at hsl
        obtain ⟨cs, hc⟩ := hall i ms hmem
        have hg := get_of_mem huniq (List.mem_append_right n hc)
        obtain ⟨cs2, a1, a2, a3, _⟩ := hobj i cs hg
        obtain ⟨b1, b2⟩ := refOK_obj (avr_ref hsl) a1
        refine .ref _ _ _ ?_
        unfold RefOK
        rw [hg, lendL_some hL.uniq a3]
        exact ⟨by omega, b2⟩
      · rw [e1]
        refine .osl _ _ _ _ ?_
        unfold OslOK
        rw [get_of_mem huniq hmem]
        refine ⟨by omega, ?_⟩
        rcases hr with ⟨rfl, e2, hm⟩ | ⟨i', e2, hm, hg⟩
        · rw [e2] at hsl
          rw [avr_nilsl hsl, lendL_none hL.uniq hm]
          unfold SliceAt
          rw [if_pos rfl]
          exact ⟨rfl, rfl, _, rfl⟩
        · rw [e2] at hsl
          rw [lendL_some hL.uniq hm]
          exact (oslOK_row (avr_osl hsl) (.inl hg)).2
  · obtain ⟨i, h1, h2, h3⟩ := lend_owned hL hOB ho
    rw [h3]; exact h.own i h2
  · obtain ⟨hk1, hk2⟩ := hN id ob (mem_of_get hg)
    rcases hk2 with ⟨e, xs, rfl, h4⟩ | ⟨cs, cs2, rfl, a3, a1, _⟩
    · rcases hk1 with hk1 | ⟨i, h5, rfl⟩
      · omega
      · rw [lendL_some hL.uniq h5]
        rcases h4 with ⟨_, h6⟩ | ⟨i', h6, h7⟩
        · have := hL.uniq _ h5 _ h6 rfl
          simp at this
        · have := hL.uniq _ h5 _ h6 rfl
          simp at this
          subst this
          exact h.loc id _ h7 trivial hge
    · rw [lendL_some hL.uniq a3]
      exact h.loc id _ a1 trivial hge

end
end Go.Proofs.Ytcpdnpaedkcebaa.V
