/- A small calculus over the model, ten: what the called one has of what was handed over. -/
import Derived.Test.YtcpdnpaedkcebaaVi
namespace Go.Proofs.Ytcpdnpaedkcebaa.V
open Go Go.RowKit
set_option linter.unusedVariables false
set_option linter.unusedSimpArgs false

theorem get_append (l1 l2 : LH) (k : Nat) : LH.get (l1 ++ l2) k = match LH.get l1 k with | some o => some o | none => LH.get l2 k := by
  induction l1 with
  | nil => rfl
  | cons x l1 ih =>
    obtain ⟨i, o⟩ := x
    simp only [List.cons_append, LH.get]
    split
    · rfl
    · exact ih
theorem get_none {l : LH} {k : Nat} (h : ∀ p ∈ l, p.1 ≠ k) : LH.get l k = none := by
  induction l with
  | nil => rfl
  | cons x l ih =>
    obtain ⟨i, o⟩ := x
    simp only [LH.get]
    rw [if_neg (h (i, o) List.mem_cons_self)]
    exact ih fun p hp => h p (List.mem_cons_of_mem _ hp)
theorem mem_of_get {l : LH} {k : Nat} {o : LObj} (h : LH.get l k = some o) : (k, o) ∈ l := by
  induction l with
  | nil => cases h
  | cons x l ih =>
    obtain ⟨i, p⟩ := x
    simp only [LH.get] at h
    split at h
    · rename_i e; cases h; subst e; exact List.mem_cons_self
    · exact List.mem_cons_of_mem _ (ih h)

def OC.row : OC → Option LObj
  | .cv _ => none
  | .own e xs => some (.row e xs)

theorem get_ocOb (id k : Nat) (c : OC) : LH.get (c.ob id) k = if k = id then c.row else none := by
  cases c with
  | cv v => simp [OC.ob, LH.get, OC.row]
  | own e xs =>
    simp only [OC.ob, LH.get, OC.row]
    by_cases h : id = k
    · rw [if_pos h, if_pos h.symm]
    · rw [if_neg h, if_neg (Ne.symm h)]

theorem get_cellsOb (base : Nat) : ∀ (cs : List OC) (k key : Nat), LH.get (cellsOb base cs k) key =
    if base + 1 + k ≤ key ∧ key < base + 1 + k + cs.length then (cs.getD (key - (base + 1 + k)) (.cv .undef)).row else none
  | [], k, key => by
    rw [if_neg (by simp)]
    rfl
  | c :: cs, k, key => by
    simp only [cellsOb, get_append, get_ocOb, get_cellsOb base cs (k + 1) key]
    by_cases h : key = base + 1 + k
    · subst h
      have e1 : (if base + 1 + (k + 1) ≤ base + 1 + k ∧ base + 1 + k < base + 1 + (k + 1) + cs.length then (cs.getD (base + 1 + k - (base + 1 + (k + 1))) (.cv .undef)).row else none) = none := if_neg (by omega)
      have e2 : (if base + 1 + k ≤ base + 1 + k ∧ base + 1 + k < base + 1 + k + (c :: cs).length then ((c :: cs).getD (base + 1 + k - (base + 1 + k)) (.cv .undef)).row else none) = c.row := by
        rw [if_pos (by simp), Nat.sub_self, List.getD_cons_zero]
      rw [e1, e2, if_pos rfl]
      cases c.row <;> rfl
    · rw [if_neg h]
      simp only
      by_cases h2 : base + 1 + (k + 1) ≤ key ∧ key < base + 1 + (k + 1) + cs.length
      · rw [if_pos h2, if_pos (by simp; omega)]
        have : key - (base + 1 + k) = (key - (base + 1 + (k + 1))) + 1 := by omega
        rw [this, List.getD_cons_succ]
      · rw [if_neg h2, if_neg (by simp; omega)]

theorem cellsAV_len (base : Nat) : ∀ (cs : List OC) (k : Nat), (cellsAV base cs k).length = cs.length
  | [], _ => rfl
  | c :: cs, k => by simp [cellsAV, cellsAV_len base cs (k + 1)]
theorem cellsAV_get (base : Nat) : ∀ (cs : List OC) (k q : Nat), q < cs.length → (cellsAV base cs k).getD q (.c .undef) = (cs.getD q (.cv .undef)).av (base + 1 + k + q)
  | c :: cs, k, 0, _ => rfl
  | c :: cs, k, q + 1, h => by
    simp only [cellsAV, List.getD_cons_succ]
    rw [cellsAV_get base cs (k + 1) q (by simpa using h)]
    congr 1; omega

def Arg.small : Arg → Prop
  | .obj cs => cs.length ≤ 15
  | _ => True

/-- What an argument's thing under its own name is, and what its cells' are. -/
def Arg.top (id : Nat) : Arg → Option LObj
  | .cv _ => none
  | .own e xs => some (.row e xs)
  | .mutr e xs => some (.row e xs)
  | .obj cs => some (.obj (cellsAV id cs 0))
def Arg.sub : Arg → Nat → Option LObj
  | .obj cs, q => if q < cs.length then (cs.getD q (.cv .undef)).row else none
  | _, _ => none

theorem get_argOb (id : Nat) (ar : Arg) (key : Nat) : LH.get (ar.ob id) key = if key = id then ar.top id else if id < key then ar.sub (key - id - 1) else none := by
  cases ar with
  | cv v => simp [Arg.ob, LH.get, Arg.top, Arg.sub]
  | own e xs =>
    simp only [Arg.ob, LH.get, Arg.top, Arg.sub]
    by_cases h : id = key
    · rw [if_pos h, if_pos h.symm]
    · rw [if_neg h, if_neg (Ne.symm h)]; split <;> rfl
  | mutr e xs =>
    simp only [Arg.ob, LH.get, Arg.top, Arg.sub]
    by_cases h : id = key
    · rw [if_pos h, if_pos h.symm]
    · rw [if_neg h, if_neg (Ne.symm h)]; split <;> rfl
  | obj cs =>
    simp only [Arg.ob, LH.get, Arg.top, Arg.sub]
    by_cases h : id = key
    · rw [if_pos h, if_pos h.symm]
    · rw [if_neg h, if_neg (Ne.symm h), get_cellsOb]
      by_cases h2 : id < key
      · rw [if_pos h2]
        have : key - (id + 1 + 0) = key - id - 1 := by omega
        rw [this]
        by_cases h3 : key - id - 1 < cs.length
        · rw [if_pos h3, if_pos (by omega)]
        · rw [if_neg h3, if_neg (by omega)]
      · rw [if_neg h2, if_neg (by omega)]

theorem sub_small {ar : Arg} {q : Nat} (hs : ar.small) (h : 15 ≤ q) : ar.sub q = none := by
  cases ar with
  | obj cs => simp only [Arg.sub]; rw [if_neg (by simp only [Arg.small] at hs; omega)]
  | _ => rfl

theorem get_argsOb (base : Nat) (hb : base % 64 = 0) : ∀ (as : List Arg) (j key : Nat), (∀ ar ∈ as, ar.small) → LH.get (argsOb base as j) key =
    if base + 64 * j ≤ key ∧ key < base + 64 * (j + as.length) then LH.get ((as.getD ((key - base) / 64 - j) (.cv .undef)).ob (base + 64 * ((key - base) / 64))) key else none
  | [], j, key, _ => by
    rw [if_neg (by simp)]
    rfl
  | ar :: as, j, key, hs => by
    simp only [argsOb, get_append]
    rw [get_argsOb base hb as (j + 1) key (fun x hx => hs x (List.mem_cons_of_mem _ hx)), get_argOb]
    have har := hs ar List.mem_cons_self
    by_cases h1 : base + 64 * j ≤ key ∧ key < base + 64 * (j + 1)
    · have hq : (key - base) / 64 = j := by omega
      rw [if_pos (show base + 64 * j ≤ key ∧ key < base + 64 * (j + (ar :: as).length) by simp; omega), hq, Nat.sub_self, List.getD_cons_zero, get_argOb]
      rw [if_neg (show ¬ (base + 64 * (j + 1) ≤ key ∧ key < base + 64 * (j + 1 + as.length)) by omega)]
      split <;> rename_i h
      · rw [← h, get_argOb]
      · rw [← h, get_argOb]
    · have e0 : (if key = base + 64 * j then ar.top (base + 64 * j) else if base + 64 * j < key then ar.sub (key - (base + 64 * j) - 1) else none) = none := by
        rw [if_neg (by omega)]
        split
        · exact sub_small har (by omega)
        · rfl
      rw [e0]
      simp only
      by_cases h2 : base + 64 * (j + 1) ≤ key ∧ key < base + 64 * (j + 1 + as.length)
      · rw [if_pos h2, if_pos (by simp; omega)]
        have : (key - base) / 64 - j = ((key - base) / 64 - (j + 1)) + 1 := by omega
        rw [this, List.getD_cons_succ]
      · rw [if_neg h2, if_neg (by simp; omega)]

/-- Every thing of a heap is something that was handed over. -/
structure OB (H : LH) (m : List (Nat × Option Nat)) (Ha : LH) : Prop where
  row : ∀ k e xs, LH.get Ha k = some (.row e xs) → (xs = [] ∧ (k, none) ∈ m) ∨ ∃ i, (k, some i) ∈ m ∧ LH.get H i = some (.row e xs)
  obj : ∀ k cs, LH.get Ha k = some (.obj cs) → ∃ i cs2, (k, some i) ∈ m ∧ LH.get H i = some (.obj cs2) ∧ cs.length = cs2.length ∧ ∀ q, q < cs.length →
    (∃ v, cs.getD q (.c .undef) = .c v ∧ cs2.getD q (.c .undef) = .c v) ∨
    (∃ key e xs, cs.getD q (.c .undef) = .osl key 0 xs.length ∧ LH.get Ha key = some (.row e xs) ∧ ((xs = [] ∧ cs2.getD q (.c .undef) = .c .nilsl ∧ (key, none) ∈ m) ∨
      ∃ i', cs2.getD q (.c .undef) = .osl i' 0 xs.length ∧ (key, some i') ∈ m ∧ LH.get H i' = some (.row e xs)))
  vrow : ∀ k e xs, LH.get Ha k ≠ some (.vrow e xs)
  dead : ∀ k, LH.get Ha k ≠ some .dead

def lendL (ι : Nat → Loc) (m : List (Nat × Option Nat)) (k : Nat) : Loc :=
  match mget m k with
  | some (some i) => ι i
  | _ => ⟨0, 0, 0, true⟩

section
variable {P : Program} {C : Ctx} {ι : Nat → Loc} {S : Nat → Prop} {σ : Slots} {H H' Ha : LH} {a : Act} {w : World} {g : Prop} {m : List (Nat × Option Nat)} {lo hi : Nat} {V : List Nat}

theorem lendL_some (hu : ∀ p ∈ m, ∀ q ∈ m, p.1 = q.1 → p = q) {k i : Nat} (h : (k, some i) ∈ m) : lendL ι m k = ι i := by
  unfold lendL; rw [mget_of_mem hu h]
theorem lendL_none (hu : ∀ p ∈ m, ∀ q ∈ m, p.1 = q.1 → p = q) {k : Nat} (h : (k, none) ∈ m) : lendL ι m k = ⟨0, 0, 0, true⟩ := by
  unfold lendL; rw [mget_of_mem hu h]

theorem lend_owned (hl : Lend H H' m lo hi) (hob : OB H m Ha) {k : Nat} (ho : Owned (lendL ι m) Ha k) : ∃ i, (k, some i) ∈ m ∧ Owned ι H i ∧ lendL ι m k = ι i := by
  unfold Owned at ho
  split at ho
  · rename_i cs hg
    obtain ⟨i, cs2, h1, h2, _⟩ := hob.obj _ _ hg
    refine ⟨i, h1, ?_, lendL_some hl.uniq h1⟩
    unfold Owned; rw [h2]; trivial
  · rename_i e xs hg
    rcases hob.row _ _ _ hg with ⟨_, h1⟩ | ⟨i, h1, h2⟩
    · rw [lendL_none hl.uniq h1] at ho; cases ho
    · rw [lendL_some hl.uniq h1] at ho
      refine ⟨i, h1, ?_, lendL_some hl.uniq h1⟩
      unfold Owned; rw [h2]; exact ho
  · exact ho.elim

/-- THE LAW: what was handed over is borne under the new names. -/
theorem lend_HR (h : HR ι S H w) (hl : Lend H H' m lo hi) (hob : OB H m Ha) (hV : ∀ i ∈ V, (∃ e xs, LH.get H i = some (.row e xs)) ∧ isLive H' i) : HR (lendL ι m) (Sv ι S V) Ha w := by
  have views : ∀ b o x, S b → w.cell? ⟨b, o, none⟩ = some x → Sv ι S V b ∧ w.cell? ⟨b, o, none⟩ = some x := fun b o x hs hx => ⟨.inl hs, hx⟩
  refine ⟨fun k cs hg => ?_, fun k e xs hg => ?_, fun k e xs hg => absurd hg (hob.vrow k e xs), fun k1 k2 h1 h2 he => ?_, fun k hk => ?_, fun k hk => ?_, fun b hb => ?_⟩
  · obtain ⟨i, cs2, h1, h2, h3, h4⟩ := hob.obj _ _ hg
    rw [lendL_some hl.uniq h1]
    intro q hq
    obtain ⟨x, hx, hfz, hxv⟩ := h.obj _ _ h2 q (by omega)
    refine ⟨x, hx, hfz, ?_⟩
    rcases h4 q hq with ⟨v, e1, e2⟩ | ⟨key, e, xs, e1, hkey, hc⟩
    · rw [e1]
      rw [e2] at hxv
      exact .c _ _ ((avr_c hxv).mono views)
    · rw [e1]
      refine .osl _ _ _ _ ?_
      unfold OslOK
      rw [hkey]
      refine ⟨by omega, ?_⟩
      rcases hc with ⟨rfl, e2, hm⟩ | ⟨i', e2, hm, hg'⟩
      · rw [lendL_none hl.uniq hm]
        rw [e2] at hxv
        rw [avr_nilsl hxv]
        unfold SliceAt
        rw [if_pos rfl]
        exact ⟨rfl, rfl, _, rfl⟩
      · rw [lendL_some hl.uniq hm]
        rw [e2] at hxv
        exact (oslOK_row (avr_osl hxv) (.inl hg')).2
  · rcases hob.row _ _ _ hg with ⟨rfl, h1⟩ | ⟨i, h1, h2⟩
    · rw [lendL_none hl.uniq h1]
      unfold RowR
      rw [if_pos rfl]
    · rw [lendL_some hl.uniq h1]
      exact (h.row _ _ _ h2).mono views (fun _ => rfl)
  · obtain ⟨i1, m1, o1, l1⟩ := lend_owned hl hob h1
    obtain ⟨i2, m2, o2, l2⟩ := lend_owned hl hob h2
    rw [l1, l2] at he
    have := h.inj i1 i2 o1 o2 he
    subst this
    exact hl.inj _ _ _ m1 m2
  · obtain ⟨i, m1, o1, l1⟩ := lend_owned hl hob hk
    rw [l1]
    rintro (hs | ⟨i', hi', hn, he⟩)
    · exact h.disj i o1 hs
    · obtain ⟨⟨e, xs, hr⟩, hlive⟩ := hV i' hi'
      have o' : Owned ι H i' := by unfold Owned; rw [hr]; exact hn
      have := h.inj i i' o1 o' he
      subst this
      have hd := (hl.moved _ _ m1).2
      unfold isLive at hlive
      rw [hd] at hlive
      exact hlive
  · obtain ⟨i, m1, o1, l1⟩ := lend_owned hl hob hk
    rw [l1]
    exact h.lt i o1
  · rcases hb with hs | ⟨i', hi', hn, rfl⟩
    · exact h.slt b hs
    · obtain ⟨⟨e, xs, hr⟩, _⟩ := hV i' hi'
      exact h.lt i' (by unfold Owned; rw [hr]; exact hn)

/-- The arguments' things are what was handed over. -/
theorem args_OB {base : Nat} (hb : base % 64 = 0) {as : List Arg} {us : List Value} {vs : Nat → AV} (hl : Lend H H' m lo hi) (hq : ∀ q, q < as.length → ArgR ι S w H m V (base + 64 * (0 + q)) (vs q) (us.getD q Go.undef) (as.getD q (.cv .undef))) :
    (∀ ar ∈ as, ar.small) ∧ OB H m (argsOb base as 0) := by
  have small : ∀ ar ∈ as, ar.small := by
    intro ar har
    obtain ⟨q, hq1, rfl⟩ := List.getElem_of_mem har
    have := hq q hq1
    have e : as.getD q (.cv .undef) = as[q] := by simp [List.getD_eq_getElem?_getD, hq1]
    rw [e] at this
    cases hx : as[q] with
    | obj cs =>
      rw [hx] at this
      obtain ⟨_, _, _, _, _, _, h5, _⟩ := this
      exact h5
    | _ => trivial
  have key : ∀ k o, LH.get (argsOb base as 0) k = some o → ∃ q, q < as.length ∧ ((k = base + 64 * q ∧ (as.getD q (.cv .undef)).top (base + 64 * q) = some o) ∨ (base + 64 * q < k ∧ (as.getD q (.cv .undef)).sub (k - (base + 64 * q) - 1) = some o)) := by
    intro k o hg
    rw [get_argsOb base hb as 0 k small] at hg
    split at hg
    · rename_i hk
      refine ⟨(k - base) / 64, by omega, ?_⟩
      rw [Nat.sub_zero, get_argOb] at hg
      split at hg
      · rename_i e; exact .inl ⟨e, hg⟩
      · split at hg
        · rename_i h2; exact .inr ⟨h2, hg⟩
        · cases hg
    · cases hg
  have get_sub : ∀ q, q < as.length → ∀ cs, as.getD q (.cv .undef) = .obj cs → ∀ p, p < cs.length → LH.get (argsOb base as 0) (base + 64 * q + 1 + p) = (cs.getD p (.cv .undef)).row := by
    intro q hq1 cs he p hp
    have hsm : cs.length ≤ 15 := by
      have := small (as.getD q (.cv .undef)) (by
        have e : as.getD q (.cv .undef) = as[q] := by simp [List.getD_eq_getElem?_getD, hq1]
        rw [e]; exact List.getElem_mem hq1)
      rw [he] at this; exact this
    rw [get_argsOb base hb as 0 _ small, if_pos (by omega)]
    have hd : (base + 64 * q + 1 + p - base) / 64 = q := by omega
    rw [hd, Nat.sub_zero, he, get_argOb, if_neg (by omega), if_pos (by omega)]
    have : base + 64 * q + 1 + p - (base + 64 * q) - 1 = p := by omega
    rw [this]
    simp only [Arg.sub]
    rw [if_pos hp]
  refine ⟨small, ⟨fun k e xs hg => ?_, fun k cs hg => ?_, fun k e xs hg => ?_, fun k hg => ?_⟩⟩
  · obtain ⟨q, hq1, h⟩ := key _ _ hg
    have hr := hq q hq1
    rw [Nat.zero_add] at hr
    rcases h with ⟨rfl, h⟩ | ⟨hlt, h⟩
    · cases hx : as.getD q (.cv .undef) with
      | cv v => rw [hx] at h; cases h
      | own e' ys =>
        rw [hx] at h hr
        cases h
        rcases hr with ⟨h1, _, h2⟩ | ⟨i, h1, h2, _⟩
        · exact .inl ⟨h1, h2⟩
        · exact .inr ⟨i, h1, h2⟩
      | mutr e' ys =>
        rw [hx] at h hr
        cases h
        obtain ⟨i, h1, h2, _⟩ := hr
        exact .inr ⟨i, h1, h2⟩
      | obj cs => rw [hx] at h; cases h
    · cases hx : as.getD q (.cv .undef) with
      | obj cs =>
        rw [hx] at h hr
        simp only [Arg.sub] at h
        split at h
        · rename_i hp
          obtain ⟨i, cs2, _, _, _, _, _, h6⟩ := hr
          have := h6 _ hp
          cases hoc : cs.getD (k - (base + 64 * q) - 1) (.cv .undef) with
          | cv v => rw [hoc] at h; cases h
          | own e' ys =>
            rw [hoc] at h this
            cases h
            have ek : base + 64 * q + 1 + (k - (base + 64 * q) - 1) = k := by omega
            rw [ek] at this
            rcases this with ⟨h1, _, h2⟩ | ⟨i', _, h1, h2⟩
            · exact .inl ⟨h1, h2⟩
            · exact .inr ⟨i', h1, h2⟩
        · cases h
      | _ => rw [hx] at h; cases h
  · obtain ⟨q, hq1, h⟩ := key _ _ hg
    have hr := hq q hq1
    rw [Nat.zero_add] at hr
    rcases h with ⟨rfl, h⟩ | ⟨hlt, h⟩
    · cases hx : as.getD q (.cv .undef) with
      | obj ocs =>
        rw [hx] at h hr
        cases h
        obtain ⟨i, cs2, h1, h2, _, h4, _, h6⟩ := hr
        refine ⟨i, cs2, h1, h2, by rw [cellsAV_len]; exact h4, fun p hp => ?_⟩
        rw [cellsAV_len] at hp
        rw [cellsAV_get _ _ _ _ hp]
        have := h6 p hp
        cases hoc : ocs.getD p (.cv .undef) with
        | cv v =>
          rw [hoc] at this
          exact .inl ⟨v, rfl, this⟩
        | own e xs =>
          rw [hoc] at this
          right
          have hsub := get_sub q hq1 ocs hx p hp
          rw [hoc] at hsub
          exact ⟨base + 64 * q + 1 + p, e, xs, rfl, hsub, this⟩
      | _ => rw [hx] at h; cases h
    · cases hx : as.getD q (.cv .undef) with
      | obj ocs =>
        rw [hx] at h
        simp only [Arg.sub] at h
        split at h
        · cases hoc : ocs.getD (k - (base + 64 * q) - 1) (.cv .undef) <;> (rw [hoc] at h; cases h)
        · cases h
      | _ => rw [hx] at h; cases h
  · obtain ⟨q, hq1, h⟩ := key _ _ hg
    rcases h with ⟨rfl, h⟩ | ⟨hlt, h⟩
    · cases hx : as.getD q (.cv .undef) <;> (rw [hx] at h; cases h)
    · cases hx : as.getD q (.cv .undef) with
      | obj ocs =>
        rw [hx] at h
        simp only [Arg.sub] at h
        split at h
        · cases hoc : ocs.getD (k - (base + 64 * q) - 1) (.cv .undef) <;> (rw [hoc] at h; cases h)
        · cases h
      | _ => rw [hx] at h; cases h
  · obtain ⟨q, hq1, h⟩ := key _ _ hg
    rcases h with ⟨rfl, h⟩ | ⟨hlt, h⟩
    · cases hx : as.getD q (.cv .undef) <;> (rw [hx] at h; cases h)
    · cases hx : as.getD q (.cv .undef) with
      | obj ocs =>
        rw [hx] at h
        simp only [Arg.sub] at h
        split at h
        · cases hoc : ocs.getD (k - (base + 64 * q) - 1) (.cv .undef) <;> (rw [hoc] at h; cases h)
        · cases h
      | _ => rw [hx] at h; cases h

theorem get_top {base : Nat} (hb : base % 64 = 0) {as : List Arg} (small : ∀ ar ∈ as, ar.small) {q : Nat} (hq1 : q < as.length) :
    LH.get (argsOb base as 0) (base + 64 * q) = (as.getD q (.cv .undef)).top (base + 64 * q) := by
  rw [get_argsOb base hb as 0 _ small, if_pos (by omega)]
  have hd : (base + 64 * q - base) / 64 = q := by omega
  rw [hd, Nat.sub_zero, get_argOb, if_pos rfl]

theorem argsAV_len (base : Nat) : ∀ (as : List Arg) (j : Nat), (argsAV base as j).length = as.length
  | [], _ => rfl
  | c :: cs, k => by simp [argsAV, argsAV_len base cs (k + 1)]
theorem argsAV_get (base : Nat) : ∀ (as : List Arg) (j q : Nat), q < as.length → (argsAV base as j).getD q (.c .undef) = (as.getD q (.cv .undef)).av (base + 64 * (j + q))
  | c :: cs, k, 0, _ => rfl
  | c :: cs, k, q + 1, h => by
    simp only [argsAV, List.getD_cons_succ]
    rw [argsAV_get base cs (k + 1) q (by simpa using h)]
    congr 2; omega

/-- The values that are handed in are the arguments. -/
theorem args_AVR {base : Nat} (hb : base % 64 = 0) {as : List Arg} {us : List Value} {vs : Nat → AV} (hl : Lend H H' m lo hi) (hq : ∀ q, q < as.length → ArgR ι S w H m V (base + 64 * (0 + q)) (vs q) (us.getD q Go.undef) (as.getD q (.cv .undef)))
    {Hx : LH} (hx : ∀ k o, LH.get (argsOb base as 0) k = some o → LH.get Hx k = some o) :
    ∀ q, q < as.length → AVR (lendL ι m) Hx (Sv ι S V) w ((argsAV base as 0).getD q (.c .undef)) (us.getD q Go.undef) := by
  intro q hq1
  obtain ⟨small, hob⟩ := args_OB hb hl hq
  rw [argsAV_get _ _ _ _ hq1]
  have hr := hq q hq1
  rw [Nat.zero_add] at hr ⊢
  have htop := get_top hb small hq1
  cases he : as.getD q (.cv .undef) with
  | cv v => rw [he] at hr; exact .c _ _ hr
  | own e xs =>
    rw [he] at hr htop
    refine .osl _ _ _ _ ?_
    unfold OslOK
    rw [hx _ _ htop]
    refine ⟨by simp, ?_⟩
    rcases hr with ⟨rfl, e1, h2⟩ | ⟨i, h1, h2, h3⟩
    · rw [lendL_none hl.uniq h2, e1]
      unfold SliceAt
      rw [if_pos rfl]
      exact ⟨rfl, rfl, _, rfl⟩
    · rw [lendL_some hl.uniq h1]; exact h3
  | mutr e xs =>
    rw [he] at hr htop
    refine .osl _ _ _ _ ?_
    unfold OslOK
    rw [hx _ _ htop]
    refine ⟨by simp, ?_⟩
    obtain ⟨i, h1, h2, h3, _⟩ := hr
    rw [lendL_some hl.uniq h1]; exact h3
  | obj ocs =>
    rw [he] at hr htop
    refine .ref _ _ _ ?_
    unfold RefOK
    rw [hx _ _ htop]
    obtain ⟨i, cs, h1, h2, ⟨h3, _⟩, _⟩ := hr
    exact ⟨Nat.zero_le _, by rw [lendL_some hl.uniq h1]; exact h3⟩

end
end Go.Proofs.Ytcpdnpaedkcebaa.V
