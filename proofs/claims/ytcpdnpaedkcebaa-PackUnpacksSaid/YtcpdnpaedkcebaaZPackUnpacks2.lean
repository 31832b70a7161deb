/- Towards the law PackUnpacks (what pack.Unpack tells), part 2: the texts Vj Vk Vl Vm Vn Vr Vo Vp, what of them is used. -/
import Derived.Test.YtcpdnpaedkcebaaZPackUnpacks1
namespace Go.Proofs.Ytcpdnpaedkcebaa.V
open Go Go.RowKit
set_option linter.unusedVariables false
set_option linter.unusedSimpArgs false
theorem get_append (l1 l2 : LH) (k : Nat) : LH.get (l1 ++ l2) k = match LH.get l1 k with | some o => some o | none => LH.get l2 k := by
  induction l1 with
  | nil => rfl
  | cons x l1 ih =>
    obtain ⟨i, o⟩ := x
    simp only [List.cons_append, LH.get]
    split
    · rfl
    · exact ih
theorem mem_of_get {l : LH} {k : Nat} {o : LObj} (h : LH.get l k = some o) : (k, o) ∈ l := by
  induction l with
  | nil => cases h
  | cons x l ih =>
    obtain ⟨i, p⟩ := x
    simp only [LH.get] at h
    split at h
    · rename_i e; cases h; subst e; exact List.mem_cons_self
    · exact List.mem_cons_of_mem _ (ih h)
def OC.row : OC → Option LObj
  | .cv _ => none
  | .own e xs => some (.row e xs)
theorem get_ocOb (id k : Nat) (c : OC) : LH.get (c.ob id) k = if k = id then c.row else none := by
  cases c with
  | cv v => simp [OC.ob, LH.get, OC.row]
  | own e xs =>
    simp only [OC.ob, LH.get, OC.row]
    by_cases h : id = k
    · rw [if_pos h, if_pos h.symm]
    · rw [if_neg h, if_neg (Ne.symm h)]
theorem get_cellsOb (base : Nat) : ∀ (cs : List OC) (k key : Nat), LH.get (cellsOb base cs k) key =
    if base + 1 + k ≤ key ∧ key < base + 1 + k + cs.length then (cs.getD (key - (base + 1 + k)) (.cv .undef)).row else none
  | [], k, key => by
    rw [if_neg (by simp)]
    rfl
  | c :: cs, k, key => by
    simp only [cellsOb, get_append, get_ocOb, get_cellsOb base cs (k + 1) key]
    by_cases h : key = base + 1 + k
    · subst h
      have e1 : (if base + 1 + (k + 1) ≤ base + 1 + k ∧ base + 1 + k < base + 1 + (k + 1) + cs.length then (cs.getD (base + 1 + k - (base + 1 + (k + 1))) (.cv .undef)).row else none) = none := if_neg (by omega)
      have e2 : (if base + 1 + k ≤ base + 1 + k ∧ base + 1 + k < base + 1 + k + (c :: cs).length then ((c :: cs).getD (base + 1 + k - (base + 1 + k)) (.cv .undef)).row else none) = c.row := by
        rw [if_pos (by simp), Nat.sub_self, List.getD_cons_zero]
      rw [e1, e2, if_pos rfl]
      cases c.row <;> rfl
    · rw [if_neg h]
      simp only
      by_cases h2 : base + 1 + (k + 1) ≤ key ∧ key < base + 1 + (k + 1) + cs.length
      · rw [if_pos h2, if_pos (by simp; omega)]
        have : key - (base + 1 + k) = (key - (base + 1 + (k + 1))) + 1 := by omega
        rw [this, List.getD_cons_succ]
      · rw [if_neg h2, if_neg (by simp; omega)]
theorem cellsAV_len (base : Nat) : ∀ (cs : List OC) (k : Nat), (cellsAV base cs k).length = cs.length
  | [], _ => rfl
  | c :: cs, k => by simp [cellsAV, cellsAV_len base cs (k + 1)]
theorem cellsAV_get (base : Nat) : ∀ (cs : List OC) (k q : Nat), q < cs.length → (cellsAV base cs k).getD q (.c .undef) = (cs.getD q (.cv .undef)).av (base + 1 + k + q)
  | c :: cs, k, 0, _ => rfl
  | c :: cs, k, q + 1, h => by
    simp only [cellsAV, List.getD_cons_succ]
    rw [cellsAV_get base cs (k + 1) q (by simpa using h)]
    congr 1; omega
def Arg.small : Arg → Prop
  | .obj cs => cs.length ≤ 15
  | _ => True
def Arg.top (id : Nat) : Arg → Option LObj
  | .cv _ => none
  | .own e xs => some (.row e xs)
  | .mutr e xs => some (.row e xs)
  | .obj cs => some (.obj (cellsAV id cs 0))
def Arg.sub : Arg → Nat → Option LObj
  | .obj cs, q => if q < cs.length then (cs.getD q (.cv .undef)).row else none
  | _, _ => none
theorem get_argOb (id : Nat) (ar : Arg) (key : Nat) : LH.get (ar.ob id) key = if key = id then ar.top id else if id < key then ar.sub (key - id - 1) else none := by
  cases ar with
  | cv v => simp [Arg.ob, LH.get, Arg.top, Arg.sub]
  | own e xs =>
    simp only [Arg.ob, LH.get, Arg.top, Arg.sub]
    by_cases h : id = key
    · rw [if_pos h, if_pos h.symm]
    · rw [if_neg h, if_neg (Ne.symm h)]; split <;> rfl
  | mutr e xs =>
    simp only [Arg.ob, LH.get, Arg.top, Arg.sub]
    by_cases h : id = key
    · rw [if_pos h, if_pos h.symm]
    · rw [if_neg h, if_neg (Ne.symm h)]; split <;> rfl
  | obj cs =>
    simp only [Arg.ob, LH.get, Arg.top, Arg.sub]
    by_cases h : id = key
    · rw [if_pos h, if_pos h.symm]
    · rw [if_neg h, if_neg (Ne.symm h), get_cellsOb]
      by_cases h2 : id < key
      · rw [if_pos h2]
        have : key - (id + 1 + 0) = key - id - 1 := by omega
        rw [this]
        by_cases h3 : key - id - 1 < cs.length
        · rw [if_pos h3, if_pos (by omega)]
        · rw [if_neg h3, if_neg (by omega)]
      · rw [if_neg h2, if_neg (by omega)]
theorem sub_small {ar : Arg} {q : Nat} (hs : ar.small) (h : 15 ≤ q) : ar.sub q = none := by
  cases ar with
  | obj cs => simp only [Arg.sub]; rw [if_neg (by simp only [Arg.small] at hs; omega)]
  | _ => rfl
theorem get_argsOb (base : Nat) (hb : base % 64 = 0) : ∀ (as0 : List Arg) (j key : Nat), (∀ ar ∈ as0, ar.small) → LH.get (argsOb base as0 j) key =
    if base + 64 * j ≤ key ∧ key < base + 64 * (j + as0.length) then LH.get ((as0.getD ((key - base) / 64 - j) (.cv .undef)).ob (base + 64 * ((key - base) / 64))) key else none
  | [], j, key, _ => by
    rw [if_neg (by simp)]
    rfl
  | ar :: as0, j, key, hs => by
    simp only [argsOb, get_append]
    rw [get_argsOb base hb as0 (j + 1) key (fun x hx => hs x (List.mem_cons_of_mem _ hx)), get_argOb]
    have har := hs ar List.mem_cons_self
    by_cases h1 : base + 64 * j ≤ key ∧ key < base + 64 * (j + 1)
    · have hq : (key - base) / 64 = j := by omega
      rw [if_pos (show base + 64 * j ≤ key ∧ key < base + 64 * (j + (ar :: as0).length) by simp; omega), hq, Nat.sub_self, List.getD_cons_zero, get_argOb]
      rw [if_neg (show ¬ (base + 64 * (j + 1) ≤ key ∧ key < base + 64 * (j + 1 + as0.length)) by omega)]
      split <;> rename_i h
      · rw [← h, get_argOb]
      · rw [← h, get_argOb]
    · have e0 : (if key = base + 64 * j then ar.top (base + 64 * j) else if base + 64 * j < key then ar.sub (key - (base + 64 * j) - 1) else none) = none := by
        rw [if_neg (by omega)]
        split
        · exact sub_small har (by omega)
        · rfl
      rw [e0]
      simp only
      by_cases h2 : base + 64 * (j + 1) ≤ key ∧ key < base + 64 * (j + 1 + as0.length)
      · rw [if_pos h2, if_pos (by simp; omega)]
        have : (key - base) / 64 - j = ((key - base) / 64 - (j + 1)) + 1 := by omega
        rw [this, List.getD_cons_succ]
      · rw [if_neg h2, if_neg (by simp; omega)]
structure OB (H : LH) (m : List (Nat × Option Nat)) (Ha : LH) : Prop where
  row : ∀ k e xs, LH.get Ha k = some (.row e xs) → (xs = [] ∧ (k, none) ∈ m) ∨ ∃ i, (k, some i) ∈ m ∧ LH.get H i = some (.row e xs)
  obj : ∀ k cs, LH.get Ha k = some (.obj cs) → ∃ i cs2, (k, some i) ∈ m ∧ LH.get H i = some (.obj cs2) ∧ cs.length = cs2.length ∧ ∀ q, q < cs.length →
    (∃ v, cs.getD q (.c .undef) = .c v ∧ cs2.getD q (.c .undef) = .c v) ∨
    (∃ key e xs, cs.getD q (.c .undef) = .osl key 0 xs.length ∧ LH.get Ha key = some (.row e xs) ∧ ((xs = [] ∧ cs2.getD q (.c .undef) = .c .nilsl ∧ (key, none) ∈ m) ∨
      ∃ i', cs2.getD q (.c .undef) = .osl i' 0 xs.length ∧ (key, some i') ∈ m ∧ LH.get H i' = some (.row e xs)))
  vrow : ∀ k e xs, LH.get Ha k ≠ some (.vrow e xs)
  dead : ∀ k, LH.get Ha k ≠ some .dead
def lendL (ι : Nat → Loc) (m : List (Nat × Option Nat)) (k : Nat) : Loc :=
  match mget m k with
  | some (some i) => ι i
  | _ => ⟨0, 0, 0, true⟩
section
variable {P : Program} {C : Ctx} {ι : Nat → Loc} {S : Nat → Nat → Prop} {σ : Slots} {H H' Ha : LH} {a : Act} {w : World} {g : Prop} {m : List (Nat × Option Nat)} {lo hi : Nat} {V : List Nat}
theorem lendL_some (hu : ∀ p ∈ m, ∀ q ∈ m, p.1 = q.1 → p = q) {k i : Nat} (h : (k, some i) ∈ m) : lendL ι m k = ι i := by
  unfold lendL; rw [mget_of_mem hu h]
theorem lendL_none (hu : ∀ p ∈ m, ∀ q ∈ m, p.1 = q.1 → p = q) {k : Nat} (h : (k, none) ∈ m) : lendL ι m k = ⟨0, 0, 0, true⟩ := by
  unfold lendL; rw [mget_of_mem hu h]
theorem lend_owned (hl : Lend H H' m lo hi) (hob : OB H m Ha) {k : Nat} (ho : Owned (lendL ι m) Ha k) : ∃ i, (k, some i) ∈ m ∧ Owned ι H i ∧ lendL ι m k = ι i := by
  unfold Owned at ho
  split at ho
  · rename_i cs hg
    obtain ⟨i, cs2, h1, h2, _⟩ := hob.obj _ _ hg
    refine ⟨i, h1, ?_, lendL_some hl.uniq h1⟩
    unfold Owned; rw [h2]; trivial
  · rename_i e xs hg
    rcases hob.row _ _ _ hg with ⟨_, h1⟩ | ⟨i, h1, h2⟩
    · rw [lendL_none hl.uniq h1] at ho; cases ho
    · rw [lendL_some hl.uniq h1] at ho
      refine ⟨i, h1, ?_, lendL_some hl.uniq h1⟩
      unfold Owned; rw [h2]; exact ho
  · exact ho.elim
theorem lend_HR (h : HR ι S H w) (hl : Lend H H' m lo hi) (hob : OB H m Ha) (hV : ∀ i ∈ V, (∃ e xs, LH.get H i = some (.row e xs)) ∧ isLive H' i) : HR (lendL ι m) (Sv ι S w V) Ha w := by
  have views : ∀ b o x, S b o → w.cell? ⟨b, o, none⟩ = some x → Sv ι S w V b o ∧ w.cell? ⟨b, o, none⟩ = some x := fun b o x hs hx => ⟨.inl hs, hx⟩
  refine ⟨fun k cs hg => ?_, fun k e xs hg => ?_, fun k e xs hg => absurd hg (hob.vrow k e xs), fun k1 k2 h1 h2 he => ?_, fun k hk {o} => ?_, fun k hk => ?_, fun b o hb => ?_⟩
  · obtain ⟨i, cs2, h1, h2, h3, h4⟩ := hob.obj _ _ hg
    rw [lendL_some hl.uniq h1]
    intro q hq
    obtain ⟨x, hx, hfz, hxv⟩ := h.obj _ _ h2 q (by omega)
    refine ⟨x, hx, hfz, ?_⟩
    rcases h4 q hq with ⟨v, e1, e2⟩ | ⟨key, e, xs, e1, hkey, hc⟩
    · rw [e1]
      rw [e2] at hxv
      exact .c _ _ ((avr_c hxv).mono views)
    · rw [e1]
      refine .osl _ _ _ _ ?_
      unfold OslOK
      rw [hkey]
      refine ⟨by omega, ?_⟩
      rcases hc with ⟨rfl, e2, hm⟩ | ⟨i', e2, hm, hg'⟩
      · rw [lendL_none hl.uniq hm]
        rw [e2] at hxv
        rw [avr_nilsl hxv]
        unfold SliceAt
        rw [if_pos rfl]
        exact ⟨rfl, rfl, _, rfl⟩
      · rw [lendL_some hl.uniq hm]
        rw [e2] at hxv
        exact (oslOK_row (avr_osl hxv) (.inl hg')).2
  · rcases hob.row _ _ _ hg with ⟨rfl, h1⟩ | ⟨i, h1, h2⟩
    · rw [lendL_none hl.uniq h1]
      unfold RowR
      rw [if_pos rfl]
    · rw [lendL_some hl.uniq h1]
      exact (h.row _ _ _ h2).mono views (fun _ => rfl)
  · obtain ⟨i1, m1, o1, l1⟩ := lend_owned hl hob h1
    obtain ⟨i2, m2, o2, l2⟩ := lend_owned hl hob h2
    rw [l1, l2] at he
    have := h.inj i1 i2 o1 o2 he
    subst this
    exact hl.inj _ _ _ m1 m2
  · obtain ⟨i, m1, o1, l1⟩ := lend_owned hl hob hk
    rw [l1]
    rintro (hs | ⟨i', hi', ⟨hn, he⟩, -⟩)
    · exact h.disj i o1 hs
    · obtain ⟨⟨e, xs, hr⟩, hlive⟩ := hV i' hi'
      have o' : Owned ι H i' := by unfold Owned; rw [hr]; exact hn
      have := h.inj i i' o1 o' he
      subst this
      have hd := (hl.moved _ _ m1).2
      unfold isLive at hlive
      rw [hd] at hlive
      exact hlive
  · obtain ⟨i, m1, o1, l1⟩ := lend_owned hl hob hk
    rw [l1]
    exact h.lt i o1
  · rcases hb with hs | ⟨i', hi', ⟨hn, rfl⟩, -⟩
    · exact h.slt b hs
    · obtain ⟨⟨e, xs, hr⟩, _⟩ := hV i' hi'
      exact h.lt i' (by unfold Owned; rw [hr]; exact hn)
theorem args_OB {base : Nat} (hb : base % 64 = 0) {as0 : List Arg} {us : List Value} {vs : Nat → AV} (hl : Lend H H' m lo hi) (hq : ∀ q, q < as0.length → ArgR ι S w H m V (base + 64 * (0 + q)) (vs q) (us.getD q Go.undef) (as0.getD q (.cv .undef))) :
    (∀ ar ∈ as0, ar.small) ∧ OB H m (argsOb base as0 0) := by
  have small : ∀ ar ∈ as0, ar.small := by
    intro ar har
    obtain ⟨q, hq1, rfl⟩ := List.getElem_of_mem har
    have := hq q hq1
    have e : as0.getD q (.cv .undef) = as0[q] := by simp [List.getD_eq_getElem?_getD, hq1]
    rw [e] at this
    cases hx : as0[q] with
    | obj cs =>
      rw [hx] at this
      obtain ⟨_, _, _, _, _, _, h5, _⟩ := this
      exact h5
    | _ => trivial
  have key : ∀ k o, LH.get (argsOb base as0 0) k = some o → ∃ q, q < as0.length ∧ ((k = base + 64 * q ∧ (as0.getD q (.cv .undef)).top (base + 64 * q) = some o) ∨ (base + 64 * q < k ∧ (as0.getD q (.cv .undef)).sub (k - (base + 64 * q) - 1) = some o)) := by
    intro k o hg
    rw [get_argsOb base hb as0 0 k small] at hg
    split at hg
    · rename_i hk
      refine ⟨(k - base) / 64, by omega, ?_⟩
      rw [Nat.sub_zero, get_argOb] at hg
      split at hg
      · rename_i e; exact .inl ⟨e, hg⟩
      · split at hg
        · rename_i h2; exact .inr ⟨h2, hg⟩
        · cases hg
    · cases hg
  have get_sub : ∀ q, q < as0.length → ∀ cs, as0.getD q (.cv .undef) = .obj cs → ∀ p, p < cs.length → LH.get (argsOb base as0 0) (base + 64 * q + 1 + p) = (cs.getD p (.cv .undef)).row := by
    intro q hq1 cs he p hp
    have hsm : cs.length ≤ 15 := by
      have := small (as0.getD q (.cv .undef)) (by
        have e : as0.getD q (.cv .undef) = as0[q] := by simp [List.getD_eq_getElem?_getD, hq1]
        rw [e]; exact List.getElem_mem hq1)
      rw [he] at this; exact this
    rw [get_argsOb base hb as0 0 _ small, if_pos (by omega)]
    have hd : (base + 64 * q + 1 + p - base) / 64 = q := by omega
    rw [hd, Nat.sub_zero, he, get_argOb, if_neg (by omega), if_pos (by omega)]
    have : base + 64 * q + 1 + p - (base + 64 * q) - 1 = p := by omega
    rw [this]
    simp only [Arg.sub]
    rw [if_pos hp]
  refine ⟨small, ⟨fun k e xs hg => ?_, fun k cs hg => ?_, fun k e xs hg => ?_, fun k hg => ?_⟩⟩
  · obtain ⟨q, hq1, h⟩ := key _ _ hg
    have hr := hq q hq1
    rw [Nat.zero_add] at hr
    rcases h with ⟨rfl, h⟩ | ⟨hlt, h⟩
    · cases hx : as0.getD q (.cv .undef) with
      | cv v => rw [hx] at h; cases h
      | own e' ys =>
        rw [hx] at h hr
        cases h
        rcases hr with ⟨h1, _, h2⟩ | ⟨i, h1, h2, _⟩
        · exact .inl ⟨h1, h2⟩
        · exact .inr ⟨i, h1, h2⟩
      | mutr e' ys =>
        rw [hx] at h hr
        cases h
        obtain ⟨i, h1, h2, _⟩ := hr
        exact .inr ⟨i, h1, h2⟩
      | obj cs => rw [hx] at h; cases h
    · cases hx : as0.getD q (.cv .undef) with
      | obj cs =>
        rw [hx] at h hr
        simp only [Arg.sub] at h
        split at h
        · rename_i hp
          obtain ⟨i, cs2, _, _, _, _, _, h6⟩ := hr
          have := h6 _ hp
          cases hoc : cs.getD (k - (base + 64 * q) - 1) (.cv .undef) with
          | cv v => rw [hoc] at h; cases h
          | own e' ys =>
            rw [hoc] at h this
            cases h
            have ek : base + 64 * q + 1 + (k - (base + 64 * q) - 1) = k := by omega
            rw [ek] at this
            rcases this with ⟨h1, _, h2⟩ | ⟨i', _, h1, h2⟩
            · exact .inl ⟨h1, h2⟩
            · exact .inr ⟨i', h1, h2⟩
        · cases h
      | _ => rw [hx] at h; cases h
  · obtain ⟨q, hq1, h⟩ := key _ _ hg
    have hr := hq q hq1
    rw [Nat.zero_add] at hr
    rcases h with ⟨rfl, h⟩ | ⟨hlt, h⟩
    · cases hx : as0.getD q (.cv .undef) with
      | obj ocs =>
        rw [hx] at h hr
        cases h
        obtain ⟨i, cs2, h1, h2, _, h4, _, h6⟩ := hr
        refine ⟨i, cs2, h1, h2, by rw [cellsAV_len]; exact h4, fun p hp => ?_⟩
        rw [cellsAV_len] at hp
        rw [cellsAV_get _ _ _ _ hp]
        have := h6 p hp
        cases hoc : ocs.getD p (.cv .undef) with
        | cv v =>
          rw [hoc] at this
          exact .inl ⟨v, rfl, this⟩
        | own e xs =>
          rw [hoc] at this
          right
          have hsub := get_sub q hq1 ocs hx p hp
          rw [hoc] at hsub
          exact ⟨base + 64 * q + 1 + p, e, xs, rfl, hsub, this⟩
      | _ => rw [hx] at h; cases h
    · cases hx : as0.getD q (.cv .undef) with
      | obj ocs =>
        rw [hx] at h
        simp only [Arg.sub] at h
        split at h
        · cases hoc : ocs.getD (k - (base + 64 * q) - 1) (.cv .undef) <;> (rw [hoc] at h; cases h)
        · cases h
      | _ => rw [hx] at h; cases h
  · obtain ⟨q, hq1, h⟩ := key _ _ hg
    rcases h with ⟨rfl, h⟩ | ⟨hlt, h⟩
    · cases hx : as0.getD q (.cv .undef) <;> (rw [hx] at h; cases h)
    · cases hx : as0.getD q (.cv .undef) with
      | obj ocs =>
        rw [hx] at h
        simp only [Arg.sub] at h
        split at h
        · cases hoc : ocs.getD (k - (base + 64 * q) - 1) (.cv .undef) <;> (rw [hoc] at h; cases h)
        · cases h
      | _ => rw [hx] at h; cases h
  · obtain ⟨q, hq1, h⟩ := key _ _ hg
    rcases h with ⟨rfl, h⟩ | ⟨hlt, h⟩
    · cases hx : as0.getD q (.cv .undef) <;> (rw [hx] at h; cases h)
    · cases hx : as0.getD q (.cv .undef) with
      | obj ocs =>
        rw [hx] at h
        simp only [Arg.sub] at h
        split at h
        · cases hoc : ocs.getD (k - (base + 64 * q) - 1) (.cv .undef) <;> (rw [hoc] at h; cases h)
        · cases h
      | _ => rw [hx] at h; cases h
theorem get_top {base : Nat} (hb : base % 64 = 0) {as0 : List Arg} (small : ∀ ar ∈ as0, ar.small) {q : Nat} (hq1 : q < as0.length) :
    LH.get (argsOb base as0 0) (base + 64 * q) = (as0.getD q (.cv .undef)).top (base + 64 * q) := by
  rw [get_argsOb base hb as0 0 _ small, if_pos (by omega)]
  have hd : (base + 64 * q - base) / 64 = q := by omega
  rw [hd, Nat.sub_zero, get_argOb, if_pos rfl]
theorem argsAV_len (base : Nat) : ∀ (as0 : List Arg) (j : Nat), (argsAV base as0 j).length = as0.length
  | [], _ => rfl
  | c :: cs, k => by simp [argsAV, argsAV_len base cs (k + 1)]
theorem argsAV_get (base : Nat) : ∀ (as0 : List Arg) (j q : Nat), q < as0.length → (argsAV base as0 j).getD q (.c .undef) = (as0.getD q (.cv .undef)).av (base + 64 * (j + q))
  | c :: cs, k, 0, _ => rfl
  | c :: cs, k, q + 1, h => by
    simp only [argsAV, List.getD_cons_succ]
    rw [argsAV_get base cs (k + 1) q (by simpa using h)]
    congr 2; omega
theorem args_AVR {base : Nat} (hb : base % 64 = 0) {as0 : List Arg} {us : List Value} {vs : Nat → AV} (hl : Lend H H' m lo hi) (hq : ∀ q, q < as0.length → ArgR ι S w H m V (base + 64 * (0 + q)) (vs q) (us.getD q Go.undef) (as0.getD q (.cv .undef)))
    {Hx : LH} (hx : ∀ k o, LH.get (argsOb base as0 0) k = some o → LH.get Hx k = some o) :
    ∀ q, q < as0.length → AVR (lendL ι m) Hx (Sv ι S w V) w ((argsAV base as0 0).getD q (.c .undef)) (us.getD q Go.undef) := by
  intro q hq1
  obtain ⟨small, hob⟩ := args_OB hb hl hq
  rw [argsAV_get _ _ _ _ hq1]
  have hr := hq q hq1
  rw [Nat.zero_add] at hr ⊢
  have htop := get_top hb small hq1
  cases he : as0.getD q (.cv .undef) with
  | cv v => rw [he] at hr; exact .c _ _ hr
  | own e xs =>
    rw [he] at hr htop
    refine .osl _ _ _ _ ?_
    unfold OslOK
    rw [hx _ _ htop]
    refine ⟨by simp, ?_⟩
    rcases hr with ⟨rfl, e1, h2⟩ | ⟨i, h1, h2, h3⟩
    · rw [lendL_none hl.uniq h2, e1]
      unfold SliceAt
      rw [if_pos rfl]
      exact ⟨rfl, rfl, _, rfl⟩
    · rw [lendL_some hl.uniq h1]; exact h3
  | mutr e xs =>
    rw [he] at hr htop
    refine .osl _ _ _ _ ?_
    unfold OslOK
    rw [hx _ _ htop]
    refine ⟨by simp, ?_⟩
    obtain ⟨i, h1, h2, h3, _⟩ := hr
    rw [lendL_some hl.uniq h1]; exact h3
  | obj ocs =>
    rw [he] at hr htop
    refine .ref _ _ _ ?_
    unfold RefOK
    rw [hx _ _ htop]
    obtain ⟨i, cs, h1, h2, ⟨h3, _⟩, _⟩ := hr
    exact ⟨Nat.zero_le _, by rw [lendL_some hl.uniq h1]; exact h3⟩
end
def isSS : Option (Option Nat) → Bool
  | some (some _) => true
  | _ => false
theorem isSS_spec {o : Option (Option Nat)} (h : isSS o = true) : ∃ i, o = some (some i) := by
  match o, h with
  | some (some i), _ => exact ⟨i, rfl⟩
def backTop (u j : Nat) : Arg → Option LObj
  | .obj b => some (.obj (cellsAV (64 * (u + 1 + j)) b 0))
  | .mutr e xs => some (.row e xs)
  | _ => none
theorem get_impOb (u : Nat) : ∀ (rs : List OC) (j id : Nat), j + rs.length ≤ 64 → LH.get (impOb u rs j) id = if 64 * u + j ≤ id ∧ id < 64 * u + j + rs.length then (rs.getD (id - (64 * u + j)) (.cv .undef)).row else none
  | [], j, id, _ => by rw [if_neg (by simp)]; rfl
  | r :: rs, j, id, h => by
    simp only [impOb, get_append, get_ocOb]
    rw [get_impOb u rs (j + 1) id (by simp at h; omega)]
    by_cases e : id = 64 * u + j
    · subst e
      have e1 : (if 64 * u + (j + 1) ≤ 64 * u + j ∧ 64 * u + j < 64 * u + (j + 1) + rs.length then (rs.getD (64 * u + j - (64 * u + (j + 1))) (.cv .undef)).row else none) = none := if_neg (by omega)
      have e2 : (if 64 * u + j ≤ 64 * u + j ∧ 64 * u + j < 64 * u + j + (r :: rs).length then ((r :: rs).getD (64 * u + j - (64 * u + j)) (.cv .undef)).row else none) = r.row := by
        rw [if_pos (by simp), Nat.sub_self, List.getD_cons_zero]
      rw [e1, e2, if_pos rfl]
      cases r.row <;> rfl
    · rw [if_neg e]
      simp only
      by_cases h2 : 64 * u + (j + 1) ≤ id ∧ id < 64 * u + (j + 1) + rs.length
      · rw [if_pos h2, if_pos (by simp; omega)]
        have : id - (64 * u + j) = (id - (64 * u + (j + 1))) + 1 := by omega
        rw [this, List.getD_cons_succ]
      · rw [if_neg h2, if_neg (by simp; omega)]
theorem get_deadOf : ∀ (m : List (Nat × Option Nat)) (id : Nat), ((∃ k, (k, some id) ∈ m) ∧ LH.get (deadOf m) id = some .dead) ∨ ((¬ ∃ k, (k, some id) ∈ m) ∧ LH.get (deadOf m) id = none)
  | [], id => .inr ⟨fun ⟨k, h⟩ => (by cases h), rfl⟩
  | (k, none) :: m, id => by
    rcases get_deadOf m id with ⟨⟨k', hk⟩, h⟩ | ⟨hn, h⟩
    · exact .inl ⟨⟨k', List.mem_cons_of_mem _ hk⟩, h⟩
    · refine .inr ⟨fun ⟨k', hk⟩ => ?_, h⟩
      rcases List.mem_cons.1 hk with hk | hk
      · cases hk
      · exact hn ⟨k', hk⟩
  | (k, some i) :: m, id => by
    simp only [deadOf, LH.get]
    by_cases e : i = id
    · subst e; exact .inl ⟨⟨k, List.mem_cons_self⟩, by rw [if_pos rfl]⟩
    · rw [if_neg e]
      rcases get_deadOf m id with ⟨⟨k', hk⟩, h⟩ | ⟨hn, h⟩
      · exact .inl ⟨⟨k', List.mem_cons_of_mem _ hk⟩, h⟩
      · refine .inr ⟨fun ⟨k', hk⟩ => ?_, h⟩
        rcases List.mem_cons.1 hk with hk | hk
        · cases hk; exact e rfl
        · exact hn ⟨k', hk⟩
theorem get_backW (u : Nat) (m : List (Nat × Option Nat)) (hout : ∀ k i, mget m k = some (some i) → i / 64 < u ∨ u + 9 ≤ i / 64) :
    ∀ (B : List Arg) (j0 id : Nat), (∀ ar ∈ B, ar.small) → j0 + B.length ≤ 8 →
    (u ≤ id / 64 ∧ id / 64 < u + 9 → LH.get (backW u m B j0) id = if u + 1 + j0 ≤ id / 64 ∧ id / 64 < u + 1 + j0 + B.length ∧ id % 64 ≠ 0 ∧ isSS (mget m (argBase + 64 * (id / 64 - u - 1))) = true then
        (B.getD (id / 64 - u - 1 - j0) (.cv .undef)).sub (id % 64 - 1) else none) ∧
    (¬ (u ≤ id / 64 ∧ id / 64 < u + 9) → (∃ j, j < B.length ∧ mget m (argBase + 64 * (j0 + j)) = some (some id) ∧ (B.getD j (.cv .undef)).lent = true ∧ LH.get (backW u m B j0) id = backTop u (j0 + j) (B.getD j (.cv .undef))) ∨
      ((∀ j, j < B.length → mget m (argBase + 64 * (j0 + j)) = some (some id) → (B.getD j (.cv .undef)).lent = false) ∧ LH.get (backW u m B j0) id = none)) := by
  intro B
  induction B with
  | nil =>
    intro j0 id _ _
    exact ⟨fun _ => by rw [if_neg (by simp; omega)]; rfl, fun _ => .inr ⟨fun j hj => by simp at hj, rfl⟩⟩
  | cons ar B ih =>
    intro j0 id hs hl
    obtain ⟨ihN, ihO⟩ := ih (j0 + 1) id (fun x hx => hs x (List.mem_cons_of_mem _ hx)) (by simp at hl; omega)
    have har := hs ar List.mem_cons_self
    -- the tail's words, one place on
    have tailN : u ≤ id / 64 ∧ id / 64 < u + 9 → id / 64 ≠ u + 1 + j0 → LH.get (backW u m B (j0 + 1)) id = if u + 1 + j0 ≤ id / 64 ∧ id / 64 < u + 1 + j0 + (ar :: B).length ∧ id % 64 ≠ 0 ∧ isSS (mget m (argBase + 64 * (id / 64 - u - 1))) = true then
        ((ar :: B).getD (id / 64 - u - 1 - j0) (.cv .undef)).sub (id % 64 - 1) else none := by
      intro h1 h2
      rw [ihN h1]
      by_cases hc : u + 1 + (j0 + 1) ≤ id / 64 ∧ id / 64 < u + 1 + (j0 + 1) + B.length ∧ id % 64 ≠ 0 ∧ isSS (mget m (argBase + 64 * (id / 64 - u - 1))) = true
      · rw [if_pos hc, if_pos ⟨by omega, by simp; omega, hc.2.2⟩]
        have : id / 64 - u - 1 - j0 = (id / 64 - u - 1 - (j0 + 1)) + 1 := by omega
        rw [this, List.getD_cons_succ]
      · rw [if_neg hc, if_neg ?_]
        rintro ⟨a1, a2, a3⟩
        exact hc ⟨by omega, by simp at a2; omega, a3⟩
    have tailN0 : u ≤ id / 64 ∧ id / 64 < u + 9 → id / 64 = u + 1 + j0 → LH.get (backW u m B (j0 + 1)) id = none := by
      intro h1 h2
      rw [ihN h1, if_neg (by omega)]
    have tailO : ¬ (u ≤ id / 64 ∧ id / 64 < u + 9) → (mget m (argBase + 64 * j0) = some (some id) → ar.lent = false) →
      (∃ j, j < (ar :: B).length ∧ mget m (argBase + 64 * (j0 + j)) = some (some id) ∧ ((ar :: B).getD j (.cv .undef)).lent = true ∧ LH.get (backW u m B (j0 + 1)) id = backTop u (j0 + j) ((ar :: B).getD j (.cv .undef))) ∨
      ((∀ j, j < (ar :: B).length → mget m (argBase + 64 * (j0 + j)) = some (some id) → ((ar :: B).getD j (.cv .undef)).lent = false) ∧ LH.get (backW u m B (j0 + 1)) id = none) := by
      intro h1 h2
      rcases ihO h1 with ⟨j, hj, hm, hle, hg⟩ | ⟨hn, hg⟩
      · refine .inl ⟨j + 1, by simp; omega, ?_, by simpa using hle, ?_⟩
        · rw [← hm]; congr 2; omega
        · rw [hg, List.getD_cons_succ]; congr 1; omega
      · refine .inr ⟨fun j hj hm => ?_, hg⟩
        cases j with
        | zero => exact h2 hm
        | succ j =>
          rw [List.getD_cons_succ]
          refine hn j (by simpa using hj) ?_
          rw [← hm]; congr 2; omega
    have other : ar.lent = false ∨ (∀ i, mget m (argBase + 64 * j0) ≠ some (some i)) → backW u m (ar :: B) j0 = backW u m B (j0 + 1) := by
      intro h
      cases ar with
      | obj b =>
        rcases h with h | h
        · cases h
        · simp only [backW]
      | mutr e xs =>
        rcases h with h | h
        · cases h
        · simp only [backW]
      | _ => rfl
    by_cases hcase : ar.lent = true ∧ ∃ i, mget m (argBase + 64 * j0) = some (some i)
    · obtain ⟨hlent, i, hi⟩ := hcase
      have hio := hout _ _ hi
      cases ar with
      | cv v => cases hlent
      | own e xs => cases hlent
      | mutr e xs =>
        have hb : backW u m (.mutr e xs :: B) j0 = (i, .row e xs) :: backW u m B (j0 + 1) := by simp only [backW, hi]
        rw [hb]
        simp only [LH.get]
        refine ⟨fun h1 => ?_, fun h1 => ?_⟩
        · rw [if_neg (by omega)]
          by_cases h2 : id / 64 = u + 1 + j0
          · rw [tailN0 h1 h2]
            split
            · have : id / 64 - u - 1 - j0 = 0 := by omega
              rw [this]; rfl
            · rfl
          · exact tailN h1 h2
        · by_cases e1 : i = id
          · subst e1
            exact .inl ⟨0, by simp, hi, rfl, by rw [if_pos rfl]; rfl⟩
          · rw [if_neg e1]
            exact tailO h1 (fun h => by rw [hi] at h; simp at h; exact absurd h e1)
      | obj b =>
        have hb : backW u m (.obj b :: B) j0 = (i, .obj (cellsAV (64 * (u + 1 + j0)) b 0)) :: (cellsOb (64 * (u + 1 + j0)) b 0 ++ backW u m B (j0 + 1)) := by simp only [backW, hi]
        rw [hb]
        simp only [LH.get, get_append, get_cellsOb, Nat.add_zero]
        have hbl : b.length ≤ 15 := har
        have hl' : j0 + 1 ≤ 8 := by simp at hl; omega
        refine ⟨fun h1 => ?_, fun h1 => ?_⟩
        · rw [if_neg (by omega)]
          by_cases h2 : id / 64 = u + 1 + j0
          · rw [tailN0 h1 h2]
            have hz : id / 64 - u - 1 - j0 = 0 := by omega
            have hj : id / 64 - u - 1 = j0 := by omega
            rw [hz, List.getD_cons_zero, hj]
            by_cases h3 : id % 64 ≠ 0
            · rw [if_pos (show u + 1 + j0 ≤ id / 64 ∧ id / 64 < u + 1 + j0 + (Arg.obj b :: B).length ∧ id % 64 ≠ 0 ∧ isSS (mget m (argBase + 64 * j0)) = true from ⟨by omega, by simp; omega, h3, by rw [hi]; rfl⟩)]
              simp only [Arg.sub]
              have hp : id - (64 * (u + 1 + j0) + 1) = id % 64 - 1 := by omega
              rw [hp]
              by_cases h4 : id % 64 - 1 < b.length
              · rw [if_pos (by omega), if_pos h4]
                cases (b.getD (id % 64 - 1) (.cv .undef)).row <;> rfl
              · rw [if_neg (by omega), if_neg h4]
            · rw [if_neg (by omega), if_neg (by omega)]
          · rw [if_neg (by omega)]
            exact tailN h1 h2
        · by_cases e1 : i = id
          · subst e1
            exact .inl ⟨0, by simp, hi, rfl, by rw [if_pos rfl]; rfl⟩
          · rw [if_neg e1, if_neg (by omega)]
            exact tailO h1 (fun h => by rw [hi] at h; simp at h; exact absurd h e1)
    · have hne : ar.lent = false ∨ (∀ i, mget m (argBase + 64 * j0) ≠ some (some i)) := by
        by_cases hl2 : ar.lent = true
        · exact .inr fun i hi => hcase ⟨hl2, i, hi⟩
        · exact .inl (by simpa using hl2)
      rw [other hne]
      refine ⟨fun h1 => ?_, fun h1 => tailO h1 (fun h => ?_)⟩
      · by_cases h2 : id / 64 = u + 1 + j0
        · rw [tailN0 h1 h2]
          have hz : id / 64 - u - 1 - j0 = 0 := by omega
          have hj : id / 64 - u - 1 = j0 := by omega
          rw [hz, List.getD_cons_zero, hj]
          split
          · rename_i hc
            rcases hne with hne | hne
            · cases ar <;> first | rfl | cases hne
            · obtain ⟨i, hi⟩ := isSS_spec hc.2.2.2
              exact absurd hi (hne i)
          · rfl
        · exact tailN h1 h2
      · rcases hne with hne | hne
        · exact hne
        · exact absurd h (hne id)
theorem backArgs_spec : ∀ (as0 : List Arg) (bs : List (List OC)), backOK as0 bs → (backArgs as0 bs).length = as0.length ∧ ∀ q, q < as0.length → match as0.getD q (.cv .undef), (backArgs as0 bs).getD q (.cv .undef) with
    | .obj cs, .obj b => b.length = cs.length ∧ b ∈ bs
    | .mutr e xs, .mutr e' ys => e' = e ∧ ys.length = xs.length ∧ [.own e' ys] ∈ bs
    | .cv _, .cv _ => True
    | .own _ _, .cv _ => True
    | _, _ => False
  | [], [], _ => ⟨rfl, fun q hq => by simp at hq⟩
  | [], _ :: _, h => by simp [backOK] at h
  | .cv v :: as0, bs, h => by
    obtain ⟨h1, h2⟩ := backArgs_spec as0 bs h
    refine ⟨by simp [backArgs, h1], fun q hq => ?_⟩
    cases q with
    | zero => trivial
    | succ q => exact h2 q (by simpa using hq)
  | .own e xs :: as0, bs, h => by
    obtain ⟨h1, h2⟩ := backArgs_spec as0 bs h
    refine ⟨by simp [backArgs, h1], fun q hq => ?_⟩
    cases q with
    | zero => trivial
    | succ q => exact h2 q (by simpa using hq)
  | .obj cs :: as0, [], h => by simp [backOK] at h
  | .obj cs :: as0, b :: bs, h => by
    obtain ⟨h0, h⟩ := h
    obtain ⟨h1, h2⟩ := backArgs_spec as0 bs h
    refine ⟨by simp [backArgs, h1], fun q hq => ?_⟩
    cases q with
    | zero => exact ⟨h0, List.mem_cons_self⟩
    | succ q =>
      have := h2 q (by simpa using hq)
      simp only [backArgs, List.getD_cons_succ]
      revert this
      split <;> simp_all
  | .mutr e xs :: as0, [], h => by simp [backOK] at h
  | .mutr e xs :: as0, [] :: bs, h => by simp [backOK] at h
  | .mutr e xs :: as0, [.cv _] :: bs, h => by simp [backOK] at h
  | .mutr e xs :: as0, (_ :: _ :: _) :: bs, h => by simp [backOK] at h
  | .mutr e xs :: as0, [.own e' ys] :: bs, h => by
    obtain ⟨h0, h0', h⟩ := h
    obtain ⟨h1, h2⟩ := backArgs_spec as0 bs h
    refine ⟨by simp [backArgs, h1], fun q hq => ?_⟩
    cases q with
    | zero => exact ⟨h0, h0', List.mem_cons_self⟩
    | succ q =>
      have := h2 q (by simpa using hq)
      simp only [backArgs, List.getD_cons_succ]
      revert this
      split <;> simp_all
theorem RowR.scalar {L : Loc} {S S' : Nat → Nat → Prop} {w : World} {e : Nat} {xs : List CV} (h : RowR L S w e xs) (hs : ∀ x ∈ xs, x.scalar = true) : RowR L S' w e xs := by
  unfold RowR at h ⊢
  split
  · rename_i hn; rw [if_pos hn] at h; exact h
  · rename_i hn
    rw [if_neg hn] at h
    obtain ⟨h1, h2, h3, h4⟩ := h
    refine ⟨h1, h2, h3, fun i j hi hj => ?_⟩
    obtain ⟨u, hu, hv⟩ := h4 i j hi hj
    refine ⟨u, hu, hv.scalar ?_⟩
    have hx := hs _ (getD_mem hi)
    have hw := h2 _ (getD_mem hi)
    have hc : (xs.getD i .undef).cells = [xs.getD i .undef] := by
      generalize xs.getD i .undef = X at hx
      cases X <;> first | rfl | cases hx
    have hw1 := hw.1
    rw [hc] at hw1 ⊢
    have : j = 0 := by simp at hw1; omega
    subst this
    exact hx
section
variable {P : Program} {C : Ctx} {ι : Nat → Loc} {S : Nat → Nat → Prop} {σ : Slots} {H : LH} {a : Act} {w : World} {o : Oper} {g : Prop} {u : Nat}
theorem freshC_out (hf : freshC H u) {i : Nat} {ob : LObj} (h : LH.get H i = some ob) : i / 64 < u ∨ u + 9 ≤ i / 64 := hf.2 _ (mem_of_get h)
theorem import_R (h : R C ι S σ H a w) {H' : LH} {m : List (Nat × Option Nat)} {V : List Nat} {args : List Arg} {us : List Value} {vs : Nat → AV} {out : Out}
    (hl : Lend H H' m argBase (argBase + 64 * args.length)) (hlen : args.length ≤ 8)
    (hq : ∀ q, q < args.length → ArgR ι S w H m V (argBase + 64 * (0 + q)) (vs q) (us.getD q Go.undef) (args.getD q (.cv .undef)))
    (hV : ∀ i ∈ V, (∃ e xs, LH.get H i = some (.row e xs)) ∧ isLive H' i) (hbo : backOK args out.back)
    (hsc : V = [] ∨ (∀ r ∈ out.res, r.scalar) ∧ ∀ b ∈ out.back, ∀ r ∈ b, r.scalar) (hf : freshC H u) (hrl : out.res.length ≤ 60) (hbl : ∀ b ∈ out.back, b.length ≤ 15)
    {v : Value} {ι' : Nat → Loc} {S' : Nat → Nat → Prop} {w' : World}
    (hv : AVR ι' (retOb args out) S' w' (retAV out.res) v) (hr : HR ι' S' (retOb args out) w')
    (hloc : ∀ j, j < args.length → ι' (argBase + 64 * j) = lendL ι m (argBase + 64 * j) ∨ (args.getD j (.cv .undef)).lent = false)
    (hown : ∀ id, Owned ι' (retOb args out) id → Handed (lendL ι m) (argsOb argBase args 0) (ι' id).block ∨ w.heap.size ≤ (ι' id).block)
    (hsub : ∀ b {o}, Sv ι S w V b o → S' b o) (hsup : ∀ b {o}, S' b o → Sv ι S w V b o ∨ (Handed (lendL ι m) (argsOb argBase args 0) b ∨ w.heap.size ≤ b) ∧ w'.frozen? ⟨b, o, none⟩ = false)
    (hfr : Fr (Handed (lendL ι m) (argsOb argBase args 0)) w w') :
    ∃ ι2 S2, R C ι2 S2 σ (LH.sets H (backW u m (backArgs args out.back) 0 ++ impOb u out.res 0 ++ deadOf m)) a w' ∧
      AVR ι2 (LH.sets H (backW u m (backArgs args out.back) 0 ++ impOb u out.res 0 ++ deadOf m)) S2 w' (impRes u out.res) v := by
  have hb0 : argBase % 64 = 0 := rfl
  obtain ⟨hsm, hob⟩ := args_OB hb0 hl hq
  obtain ⟨hBl, hB⟩ := backArgs_spec args out.back hbo
  generalize hBd : backArgs args out.back = B at *
  generalize hws : backW u m B 0 ++ impOb u out.res 0 ++ deadOf m = ws
  -- the given back are small
  have hBsm : ∀ ar ∈ B, ar.small := by
    intro ar har
    obtain ⟨q, hq1, rfl⟩ := List.getElem_of_mem har
    have hq2 : q < args.length := by omega
    have := hB q hq2
    have e : B.getD q (.cv .undef) = B[q] := by simp [List.getD_eq_getElem?_getD, hq1]
    rw [e] at this
    cases hx : B[q] with
    | obj cs =>
      rw [hx] at this
      cases hy : args.getD q (.cv .undef) <;> rw [hy] at this <;> first | exact this.elim | exact hbl _ this.2
    | _ => trivial
  have hmH : ∀ k i, (k, some i) ∈ m → ∃ ob, LH.get H i = some ob ∧ isOwn (some ob) := fun k i hk => by
    have := (hl.moved k i hk).1
    cases hg : LH.get H i with
    | none => rw [hg] at this; exact this.elim
    | some ob => rw [hg] at this; exact ⟨ob, rfl, this⟩
  have hout : ∀ k i, mget m k = some (some i) → i / 64 < u ∨ u + 9 ≤ i / 64 := fun k i hk => by
    obtain ⟨ob, hg, _⟩ := hmH k i (mem_of_mget hk)
    exact freshC_out hf hg
  have hback := fun id => get_backW u m hout B 0 id hBsm (by omega)
  -- the lookup
  have hget : ∀ id, LH.get (LH.sets H ws) id = match LH.get (backW u m B 0) id with
      | some ob => some ob
      | none => match LH.get (impOb u out.res 0) id with
        | some ob => some ob
        | none => match LH.get (deadOf m) id with
          | some ob => some ob
          | none => LH.get H id := fun id => by
    rw [LH.get_sets, ← hws, get_append, get_append]
    cases LH.get (backW u m B 0) id with
    | some ob => rfl
    | none =>
      simp only
      cases LH.get (impOb u out.res 0) id <;> rfl
  have hmout : ∀ id, (∃ k, (k, some id) ∈ m) → ¬ (u ≤ id / 64 ∧ id / 64 < u + 9) := fun id ⟨k, hk⟩ hn => by
    obtain ⟨ob, hg, _⟩ := hmH k id hk
    have := freshC_out hf hg
    omega
  have hHout : ∀ id, (u ≤ id / 64 ∧ id / 64 < u + 9) → LH.get H id = none := fun id hn => by
    cases hg : LH.get H id with
    | none => rfl
    | some ob => have := freshC_out hf hg; omega
  have himp : ∀ id, LH.get (impOb u out.res 0) id = if id / 64 = u ∧ id % 64 < out.res.length then (out.res.getD (id % 64) (.cv .undef)).row else none := fun id => by
    rw [get_impOb u out.res 0 id (by omega)]
    by_cases hc : id / 64 = u ∧ id % 64 < out.res.length
    · rw [if_pos hc, if_pos (by omega)]
      congr 2; omega
    · rw [if_neg hc, if_neg (by omega)]
  have hR : ∀ id, id / 64 = u → LH.get (LH.sets H ws) id = if id % 64 < out.res.length then (out.res.getD (id % 64) (.cv .undef)).row else none := fun id hu => by
    rw [hget, (hback id).1 ⟨by omega, by omega⟩, if_neg (by omega), himp]
    simp only
    by_cases hc : id % 64 < out.res.length
    · rw [if_pos ⟨hu, hc⟩, if_pos hc]
      cases (out.res.getD (id % 64) (.cv .undef)).row with
      | some ob => rfl
      | none =>
        simp only
        rcases get_deadOf m id with ⟨hd, _⟩ | ⟨_, hd⟩
        · exact absurd ⟨by omega, by omega⟩ (hmout id hd)
        · rw [hd]; exact hHout id ⟨by omega, by omega⟩
    · rw [if_neg (by omega), if_neg hc]
      simp only
      rcases get_deadOf m id with ⟨hd, _⟩ | ⟨_, hd⟩
      · exact absurd ⟨by omega, by omega⟩ (hmout id hd)
      · rw [hd]; exact hHout id ⟨by omega, by omega⟩
  have hS : ∀ id, u < id / 64 → id / 64 < u + 9 → LH.get (LH.sets H ws) id = if id / 64 < u + 1 + B.length ∧ id % 64 ≠ 0 ∧ isSS (mget m (argBase + 64 * (id / 64 - u - 1))) = true then (B.getD (id / 64 - u - 1) (.cv .undef)).sub (id % 64 - 1) else none := fun id h1 h2 => by
    have rest : (match LH.get (impOb u out.res 0) id with
        | some ob => some ob
        | none => match LH.get (deadOf m) id with
          | some ob => some ob
          | none => LH.get H id) = none := by
      rw [himp, if_neg (by omega)]
      simp only
      rcases get_deadOf m id with ⟨hd, _⟩ | ⟨_, hd⟩
      · exact absurd ⟨by omega, by omega⟩ (hmout id hd)
      · rw [hd]; exact hHout id ⟨by omega, by omega⟩
    rw [hget, (hback id).1 ⟨by omega, by omega⟩, rest]
    by_cases hc : id / 64 < u + 1 + B.length ∧ id % 64 ≠ 0 ∧ isSS (mget m (argBase + 64 * (id / 64 - u - 1))) = true
    · rw [if_pos hc, if_pos ⟨by omega, by omega, hc.2⟩, Nat.sub_zero]
      cases (B.getD (id / 64 - u - 1) (.cv .undef)).sub (id % 64 - 1) <;> rfl
    · rw [if_neg hc, if_neg (fun hh => hc ⟨by omega, hh.2.2⟩)]
  have hO : ∀ id, ¬ (u ≤ id / 64 ∧ id / 64 < u + 9) →
      (∃ j, j < B.length ∧ mget m (argBase + 64 * j) = some (some id) ∧ (B.getD j (.cv .undef)).lent = true ∧ LH.get (LH.sets H ws) id = backTop u j (B.getD j (.cv .undef))) ∨
      ((∃ k, (k, some id) ∈ m) ∧ LH.get (LH.sets H ws) id = some .dead) ∨ ((¬ ∃ k, (k, some id) ∈ m) ∧ LH.get (LH.sets H ws) id = LH.get H id) := fun id hn => by
    rcases (hback id).2 hn with ⟨j, hj, hm, hle, hg⟩ | ⟨_, hg⟩
    · rw [Nat.zero_add] at hm hg
      refine .inl ⟨j, hj, hm, hle, ?_⟩
      rw [hget, hg]
      cases hx : B.getD j (.cv .undef) <;> rw [hx] at hle <;> first | rfl | cases hle
    · rw [hget, hg, himp, if_neg (by omega)]
      simp only
      rcases get_deadOf m id with ⟨hd, hg2⟩ | ⟨hd, hg2⟩
      · rw [hg2]; exact .inr (.inl ⟨hd, rfl⟩)
      · rw [hg2]; exact .inr (.inr ⟨hd, rfl⟩)
  -- the lookup in what came back
  have hresm : ∀ ar ∈ out.res.map OC.arg, ar.small := fun ar har => by
    obtain ⟨r, _, rfl⟩ := List.mem_map.1 har
    cases r <;> trivial
  have hrR : ∀ q, q < out.res.length → LH.get (retOb args out) (retBase + 64 * q) = (out.res.getD q (.cv .undef)).row := fun q hq1 => by
    unfold retOb
    rw [get_append, get_top (by rfl) hresm (by simpa using hq1), hBd]
    have e : (out.res.map OC.arg).getD q (.cv .undef) = (out.res.getD q (.cv .undef)).arg := by
      simp [List.getD_eq_getElem?_getD, hq1]
    rw [e]
    cases out.res.getD q (.cv .undef) with
    | own e xs => rfl
    | cv x =>
      show LH.get (argsOb argBase B 0) _ = none
      rw [get_argsOb argBase hb0 B 0 _ hBsm, if_neg (by unfold argBase retBase; omega)]
  have hrA : ∀ k, k < retBase → LH.get (retOb args out) k = LH.get (argsOb argBase B 0) k := fun k hk => by
    unfold retOb
    rw [get_append, get_argsOb retBase (by rfl) _ 0 _ hresm, if_neg (by omega), hBd]
  have hrT : ∀ j, j < B.length → LH.get (retOb args out) (argBase + 64 * j) = (B.getD j (.cv .undef)).top (argBase + 64 * j) := fun j hj => by
    rw [hrA _ (by unfold argBase retBase; omega), get_top hb0 hBsm hj]
  have hrS : ∀ j, j < B.length → ∀ p, p < 63 → LH.get (retOb args out) (argBase + 64 * j + 1 + p) = (B.getD j (.cv .undef)).sub p := fun j hj p hp => by
    rw [hrA _ (by unfold argBase retBase; omega), get_argsOb argBase hb0 B 0 _ hBsm, if_pos (by omega)]
    have e1 : (argBase + 64 * j + 1 + p - argBase) / 64 = j := by omega
    rw [e1, Nat.sub_zero, get_argOb, if_neg (by omega), if_pos (by omega)]
    congr 1; omega
  obtain ⟨ι2, hι2⟩ : ∃ f : Nat → Loc, f = fun id => if u ≤ id / 64 ∧ id / 64 < u + 9 then (if id / 64 = u then ι' (retBase + 64 * (id % 64)) else ι' (argBase + 64 * (id / 64 - u - 1) + id % 64)) else ι id := ⟨_, rfl⟩
  obtain ⟨S2, hS2⟩ : ∃ f : Nat → Nat → Prop, f = fun b o => S b o ∨ (S' b o ∧ ¬ ∃ i ∈ V, (ι i).isnil = false ∧ b = (ι i).block) := ⟨_, rfl⟩
  obtain ⟨H2, hH2⟩ : ∃ f : LH, f = LH.sets H ws := ⟨_, rfl⟩
  rw [← hH2] at hget hR hS hO ⊢
  have i2R : ∀ id, id / 64 = u → ι2 id = ι' (retBase + 64 * (id % 64)) := fun id h => by rw [hι2]; simp only; rw [if_pos (by omega), if_pos h]
  have i2S : ∀ id, u < id / 64 → id / 64 < u + 9 → ι2 id = ι' (argBase + 64 * (id / 64 - u - 1) + id % 64) := fun id h1 h2 => by rw [hι2]; simp only; rw [if_pos (by omega), if_neg (by omega)]
  have i2O : ∀ id, ¬ (u ≤ id / 64 ∧ id / 64 < u + 9) → ι2 id = ι id := fun id h => by rw [hι2]; simp only; rw [if_neg h]
  -- where what is given back lies
  have hlentA : ∀ j, j < B.length → (B.getD j (.cv .undef)).lent = true → (args.getD j (.cv .undef)).lent = true := fun j hj hle => by
    have := hB j (by omega)
    cases hx : B.getD j (.cv .undef) <;> rw [hx] at this hle <;> first | (cases hle; done) | skip
    all_goals
      cases hy : args.getD j (.cv .undef) <;> rw [hy] at this <;> first | exact this.elim | rfl
  have hlocB : ∀ j id, j < B.length → mget m (argBase + 64 * j) = some (some id) → (B.getD j (.cv .undef)).lent = true → ι' (argBase + 64 * j) = ι id := fun j id hj hm hle => by
    rcases hloc j (by omega) with h1 | h1
    · rw [h1]; unfold lendL; rw [hm]
    · rw [hlentA j hj hle] at h1; cases h1
  -- the own things of the heap that comes: old ones, and those that came
  have corr : ∀ id, Owned ι2 H2 id → (¬ (u ≤ id / 64 ∧ id / 64 < u + 9) ∧ (¬ ∃ k, (k, some id) ∈ m) ∧ Owned ι H id ∧ ι2 id = ι id) ∨
      ∃ r, Owned ι' (retOb args out) r ∧ ι2 id = ι' r ∧ ((id / 64 = u ∧ r = retBase + 64 * (id % 64)) ∨ (u < id / 64 ∧ id / 64 < u + 9 ∧ id % 64 ≠ 0 ∧ r = argBase + 64 * (id / 64 - u - 1) + id % 64) ∨
        (¬ (u ≤ id / 64 ∧ id / 64 < u + 9) ∧ ∃ j, j < 8 ∧ r = argBase + 64 * j ∧ (argBase + 64 * j, some id) ∈ m)) := by
    intro id ho
    by_cases hn : u ≤ id / 64 ∧ id / 64 < u + 9
    · by_cases hu : id / 64 = u
      · right
        refine ⟨retBase + 64 * (id % 64), ?_, i2R id hu, .inl ⟨hu, rfl⟩⟩
        unfold Owned at ho ⊢
        rw [hR id hu] at ho
        by_cases hc : id % 64 < out.res.length
        · rw [if_pos hc] at ho
          rw [hrR _ hc, ← i2R id hu]; exact ho
        · rw [if_neg hc] at ho; exact ho.elim
      · right
        have h1 : u < id / 64 := by omega
        by_cases hc : id / 64 < u + 1 + B.length ∧ id % 64 ≠ 0 ∧ isSS (mget m (argBase + 64 * (id / 64 - u - 1))) = true
        · refine ⟨argBase + 64 * (id / 64 - u - 1) + id % 64, ?_, i2S id h1 hn.2, .inr (.inl ⟨h1, hn.2, hc.2.1, rfl⟩)⟩
          unfold Owned at ho ⊢
          rw [hS id h1 hn.2, if_pos hc] at ho
          have e1 : argBase + 64 * (id / 64 - u - 1) + id % 64 = argBase + 64 * (id / 64 - u - 1) + 1 + (id % 64 - 1) := by omega
          rw [← i2S id h1 hn.2]
          rw [e1, hrS _ (by omega) _ (by omega)]
          exact ho
        · unfold Owned at ho
          rw [hS id h1 hn.2, if_neg hc] at ho
          exact ho.elim
    · rcases hO id hn with ⟨j, hj, hm, hle, hg⟩ | ⟨hm, hg⟩ | ⟨hm, hg⟩
      · right
        refine ⟨argBase + 64 * j, ?_, ?_, .inr (.inr ⟨hn, j, by omega, rfl, mem_of_mget hm⟩)⟩
        · unfold Owned at ho ⊢
          rw [hg, i2O id hn] at ho
          rw [hrT j hj, hlocB j id hj hm hle]
          cases hx : B.getD j (.cv .undef) with
          | obj b => trivial
          | mutr e xs => rw [hx] at ho; exact ho
          | _ => rw [hx] at hle; cases hle
        · rw [i2O id hn, hlocB j id hj hm hle]
      · unfold Owned at ho; rw [hg] at ho; exact ho.elim
      · exact .inl ⟨hn, hm, ho.of_eq hg (i2O id hn), i2O id hn⟩
  have ownH : ∀ b, Handed (lendL ι m) (argsOb argBase args 0) b → ∃ i, Owned ι H i ∧ (ι i).block = b ∧ ∃ k, (k, some i) ∈ m := fun b ⟨k, hk, hb⟩ => by
    obtain ⟨i, h1, h2, h3⟩ := lend_owned hl hob hk
    exact ⟨i, h2, by rw [← h3]; exact hb, k, h1⟩
  have oldNot : ∀ id, Owned ι H id → (¬ ∃ k, (k, some id) ∈ m) → ¬ Handed (lendL ι m) (argsOb argBase args 0) (ι id).block := fun id ho hm hh => by
    obtain ⟨i, h1, h2, h3⟩ := ownH _ hh
    have := h.hr.inj i id h1 ho h2
    subst this
    exact hm h3
  have Snot : ∀ b {o}, S b o → ¬ Handed (lendL ι m) (argsOb argBase args 0) b := fun b _ hs hh => by
    obtain ⟨i, h1, h2, _⟩ := ownH _ hh
    exact h.hr.disj i h1 (h2 ▸ hs)
  have oldblk : ∀ b, b < w.heap.size → ¬ Handed (lendL ι m) (argsOb argBase args 0) b → w'.heap[b]? = w.heap[b]? := fun b hb hn => hfr.block b hb hn
  have views : ∀ b o x, S b o → w.cell? ⟨b, o, none⟩ = some x → S2 b o ∧ w'.cell? ⟨b, o, none⟩ = some x := fun b o x hs hx => by
    refine ⟨by rw [hS2]; exact .inl hs, ?_⟩
    rw [cell_block (oldblk b (cell_lt hx) (Snot b hs))]; exact hx
  -- views that came
  have views2 : V = [] → ∀ b o x, S' b o → w'.cell? ⟨b, o, none⟩ = some x → S2 b o ∧ w'.cell? ⟨b, o, none⟩ = some x := fun hv0 b o x hs hx => by
    refine ⟨?_, hx⟩
    rw [hS2]
    refine .inr ⟨hs, ?_⟩
    rw [hv0]
    rintro ⟨i, hi, _⟩
    cases hi
  have vrC : ∀ {c : CV} {x : Value}, (V = [] ∨ c.scalar = true) → VR w' S' c x → VR w' S2 c x := fun hc hx => by
    rcases hc with hc | hc
    · exact hx.mono (views2 hc)
    · exact hx.scalar hc
  have rowC : ∀ {L : Loc} {e : Nat} {xs : List CV}, (V = [] ∨ ∀ x ∈ xs, x.scalar = true) → RowR L S' w' e xs → RowR L S2 w' e xs := fun hc hx => by
    rcases hc with hc | hc
    · exact hx.mono (views2 hc) (fun _ => rfl)
    · exact hx.scalar hc
  -- one that came, under its new name
  have avC : ∀ (oc : OC) (id r : Nat) (x : Value), (V = [] ∨ oc.scalar) → ι2 id = ι' r → LH.get H2 id = oc.row → LH.get (retOb args out) r = oc.row → AVR ι' (retOb args out) S' w' (oc.av r) x → AVR ι2 H2 S2 w' (oc.av id) x := by
    intro oc id r x hsc hi hg2 hgr hx
    cases oc with
    | cv c => exact .c _ _ (vrC hsc (avr_c hx))
    | own e xs =>
      refine .osl _ _ _ _ ?_
      have := oslOK_row (avr_osl hx) (.inl hgr)
      unfold OslOK
      rw [hg2, hi]
      exact this
  have resC : ∀ r ∈ out.res, V = [] ∨ r.scalar := fun r hr => hsc.imp id (fun h => h.1 r hr)
  have backC : ∀ b ∈ out.back, ∀ r ∈ b, V = [] ∨ r.scalar := fun b hb r hr => hsc.imp id (fun h => h.2 b hb r hr)
  have getD_mem' : ∀ {l : List OC} {q : Nat}, q < l.length → l.getD q (.cv .undef) ∈ l := fun {l q} hq => by
    rw [List.getD_eq_getElem?_getD, List.getElem?_eq_getElem hq]
    exact List.getElem_mem hq
  have hBobj : ∀ j, j < B.length → ∀ b, B.getD j (.cv .undef) = .obj b → b ∈ out.back ∧ ∃ cs, args.getD j (.cv .undef) = .obj cs ∧ b.length = cs.length := fun j hj b hb => by
    have := hB j (by omega)
    rw [hb] at this
    cases hy : args.getD j (.cv .undef) <;> rw [hy] at this <;> first | exact this.elim | exact ⟨this.2, _, rfl, this.1⟩
  have hBmut : ∀ j, j < B.length → ∀ e ys, B.getD j (.cv .undef) = .mutr e ys → [OC.own e ys] ∈ out.back ∧ ∃ xs, args.getD j (.cv .undef) = .mutr e xs ∧ ys.length = xs.length := fun j hj e ys hb => by
    have := hB j (by omega)
    rw [hb] at this
    cases hy : args.getD j (.cv .undef) <;> rw [hy] at this <;> first | exact this.elim | (obtain ⟨rfl, h2, h3⟩ := this; exact ⟨h3, _, rfl, h2⟩)
  -- which of ours an argument that is lent is
  have hmlent : ∀ j, j < B.length → (B.getD j (.cv .undef)).lent = true → ∃ i, mget m (argBase + 64 * j) = some (some i) := fun j hj hle => by
    have h1 := hq j (by omega)
    rw [Nat.zero_add] at h1
    cases hx : B.getD j (.cv .undef) with
    | obj b =>
      obtain ⟨_, cs, e1, _⟩ := hBobj j hj b hx
      rw [e1] at h1
      obtain ⟨i, _, hm, _⟩ := h1
      exact ⟨i, mget_of_mem hl.uniq hm⟩
    | mutr e ys =>
      obtain ⟨_, xs, e1, _⟩ := hBmut j hj e ys hx
      rw [e1] at h1
      obtain ⟨i, hm, _⟩ := h1
      exact ⟨i, mget_of_mem hl.uniq hm⟩
    | _ => rw [hx] at hle; cases hle
  have hsubget : ∀ j, j < B.length → ∀ b, B.getD j (.cv .undef) = .obj b → ∀ p, p < b.length → LH.get H2 (64 * (u + 1 + j) + 1 + p) = (b.getD p (.cv .undef)).row ∧ ι2 (64 * (u + 1 + j) + 1 + p) = ι' (argBase + 64 * j + 1 + p) ∧
      LH.get (retOb args out) (argBase + 64 * j + 1 + p) = (b.getD p (.cv .undef)).row := fun j hj b hb p hp => by
    have hbs : b.length ≤ 15 := hbl b (hBobj j hj b hb).1
    have d1 : (64 * (u + 1 + j) + 1 + p) / 64 = u + 1 + j := by omega
    have d2 : (64 * (u + 1 + j) + 1 + p) % 64 = 1 + p := by omega
    have d3 : u + 1 + j - u - 1 = j := by omega
    obtain ⟨i, hi⟩ := hmlent j hj (by rw [hb]; rfl)
    refine ⟨?_, ?_, ?_⟩
    · rw [hS _ (by omega) (by omega), d1, d2, d3, if_pos ⟨by omega, by omega, by rw [hi]; rfl⟩, hb]
      have : 1 + p - 1 = p := by omega
      rw [this]
      simp only [Arg.sub]
      rw [if_pos hp]
    · rw [i2S _ (by omega) (by omega), d1, d2, d3]
      congr 1; omega
    · rw [hrS j hj p (by omega), hb]
      simp only [Arg.sub]
      rw [if_pos hp]
  refine ⟨ι2, S2, h.upd ⟨hfr.os.trans h.fr.os, hfr.tape.trans h.fr.tape, hfr.output.trans h.fr.output, Nat.le_trans h.fr.size hfr.size, fun k hk hOk => ?_⟩
    (fun i ob hi => ?_) views (fun b _ hb => by rw [hS2]; exact .inl hb) (fun i => ?_) (fun i j hi hj he => ?_) (fun i hi {o} => ?_) (fun i hi => ?_) (fun b o hb => ?_) (fun i hi => ?_) (fun b o hb => ?_) (fun i ob hi hoo hge => ?_), ?_⟩
  · -- the frame
    rw [oldblk k (Nat.lt_of_lt_of_le hk h.fr.size) (fun hh => ?_)]
    · exact h.fr.block k hk hOk
    · obtain ⟨i, h1, h2, _⟩ := ownH _ hh
      rcases h.own i h1 with h3 | h3
      · exact hOk (h2 ▸ h3)
      · omega
  · -- what was known goes on
    have hn : ¬ (u ≤ i / 64 ∧ i / 64 < u + 9) := by have := freshC_out hf hi; omega
    rcases hO i hn with ⟨j, hj, hm, hle, hg⟩ | ⟨hm, hg⟩ | ⟨hm, hg⟩
    · have h1 := hq j (by omega)
      rw [Nat.zero_add] at h1
      cases hx : B.getD j (.cv .undef) with
      | obj b =>
        obtain ⟨_, cs, e1, e2⟩ := hBobj j hj b hx
        rw [e1] at h1
        obtain ⟨i', cs', hm', hg', _, hlen', _⟩ := h1
        have : i' = i := by have := mget_of_mem hl.uniq hm'; rw [hm] at this; simp at this; exact this.symm
        subst this
        rw [hi] at hg'; cases hg'
        rw [hx] at hg
        exact ⟨_, hg, i2O _ hn, by rw [cellsAV_len, e2, hlen']⟩
      | mutr e ys =>
        obtain ⟨_, xs, e1, e2⟩ := hBmut j hj e ys hx
        rw [e1] at h1
        obtain ⟨i', hm', hg', _⟩ := h1
        have : i' = i := by have := mget_of_mem hl.uniq hm'; rw [hm] at this; simp at this; exact this.symm
        subst this
        rw [hi] at hg'; cases hg'
        rw [hx] at hg
        exact ⟨_, hg, i2O _ hn, rfl, e2⟩
      | _ => rw [hx] at hle; cases hle
    · refine ⟨_, hg, ?_⟩
      cases ob <;> trivial
    · rw [hi] at hg
      refine ⟨_, hg, ?_⟩
      have := Kept.refl ι i ob
      unfold Kept at this ⊢
      rw [i2O _ hn]
      exact this
  · -- each thing is as0 it was, or is borne
    by_cases hn : u ≤ i / 64 ∧ i / 64 < u + 9
    · right
      unfold NewAt
      by_cases hu : i / 64 = u
      · rw [hR i hu, i2R i hu]
        by_cases hc : i % 64 < out.res.length
        · rw [if_pos hc]
          have hgr := hrR _ hc
          cases hx : out.res.getD (i % 64) (.cv .undef) with
          | cv c => trivial
          | own e xs =>
            rw [hx] at hgr
            have hmem := getD_mem' hc
            rw [hx] at hmem
            exact rowC (resC _ hmem) (hr.row _ _ _ hgr)
        · rw [if_neg hc]; trivial
      · have h1 : u < i / 64 := by omega
        rw [hS i h1 hn.2, i2S i h1 hn.2]
        by_cases hc : i / 64 < u + 1 + B.length ∧ i % 64 ≠ 0 ∧ isSS (mget m (argBase + 64 * (i / 64 - u - 1))) = true
        · rw [if_pos hc]
          have e1 : argBase + 64 * (i / 64 - u - 1) + i % 64 = argBase + 64 * (i / 64 - u - 1) + 1 + (i % 64 - 1) := by omega
          have hgr := hrS (i / 64 - u - 1) (by omega) (i % 64 - 1) (by omega)
          rw [← e1] at hgr
          cases hx : B.getD (i / 64 - u - 1) (.cv .undef) with
          | obj b =>
            rw [hx] at hgr
            simp only [Arg.sub] at hgr ⊢
            by_cases hp : i % 64 - 1 < b.length
            · rw [if_pos hp] at hgr ⊢
              have hmem := getD_mem' hp
              cases hy : b.getD (i % 64 - 1) (.cv .undef) with
              | cv c => trivial
              | own e xs =>
                rw [hy] at hgr hmem
                exact rowC (backC b (hBobj _ (by omega) b hx).1 _ hmem) (hr.row _ _ _ hgr)
            · rw [if_neg hp]; trivial
          | _ => trivial
        · rw [if_neg hc]; trivial
    · rcases hO i hn with ⟨j, hj, hm, hle, hg⟩ | ⟨hm, hg⟩ | ⟨hm, hg⟩
      · right
        unfold NewAt
        rw [hg, i2O i hn, ← hlocB j i hj hm hle]
        have hgr := hrT j hj
        cases hx : B.getD j (.cv .undef) with
        | obj b =>
          rw [hx] at hgr
          have hbm := hBobj j hj b hx
          show ObjR _ _ _ _ _ _
          intro p hp
          rw [cellsAV_len] at hp
          obtain ⟨x, hx1, hx2, hx3⟩ := hr.obj _ _ hgr p (by rw [cellsAV_len]; exact hp)
          refine ⟨x, hx1, hx2, ?_⟩
          rw [cellsAV_get _ _ _ _ hp, Nat.add_zero] at hx3 ⊢
          obtain ⟨s1, s2, s3⟩ := hsubget j hj b hx p hp
          exact avC _ _ _ x (backC b hbm.1 _ (getD_mem' hp)) s2 s1 s3 hx3
        | mutr e ys =>
          rw [hx] at hgr
          have hbm := hBmut j hj e ys hx
          exact rowC (backC _ hbm.1 (.own e ys) List.mem_cons_self) (hr.row _ _ _ hgr)
        | _ => rw [hx] at hle; cases hle
      · right
        unfold NewAt
        rw [hg]
        trivial
      · exact .inl ⟨hg, i2O i hn, fun ho => oldblk _ (h.hr.lt i ho) (oldNot i ho hm)⟩
  · -- own things lie apart
    rcases corr i hi with ⟨_, hm, ho, el⟩ | ⟨r, ho, el, hcr⟩ <;> rcases corr j hj with ⟨_, hm', ho', el'⟩ | ⟨r', ho', el', hcr'⟩
    · rw [el, el'] at he; exact h.hr.inj i j ho ho' he
    · rw [el, el'] at he
      have h1 := h.hr.lt i ho
      rcases hown r' ho' with h2 | h2
      · rw [← he] at h2; exact absurd h2 (oldNot i ho hm)
      · omega
    · rw [el, el'] at he
      have h1 := h.hr.lt j ho'
      rcases hown r ho with h2 | h2
      · rw [he] at h2; exact absurd h2 (oldNot j ho' hm')
      · omega
    · rw [el, el'] at he
      have := hr.inj r r' ho ho' he
      subst this
      rcases hcr with ⟨c1, c2⟩ | ⟨c1, c2, c3, c4⟩ | ⟨c1, q, c2, c3, c4⟩ <;> rcases hcr' with ⟨d1, d2⟩ | ⟨d1, d2, d3, d4⟩ | ⟨d1, q', d2, d3, d4⟩
      · omega
      · exfalso; unfold retBase at c2; unfold argBase at d4; omega
      · exfalso; unfold retBase at c2; unfold argBase at d3; omega
      · exfalso; unfold argBase at c4; unfold retBase at d2; omega
      · omega
      · exfalso; omega
      · exfalso; unfold argBase at c3; unfold retBase at d2; omega
      · exfalso; omega
      · have : argBase + 64 * q = argBase + 64 * q' := c3.symm.trans d3
        rw [← this] at d4
        have := hl.uniq _ c4 _ d4 rfl
        simp at this
        exact this
  · -- apart from what is read
    rw [hS2]
    rcases corr i hi with ⟨_, hm, ho, el⟩ | ⟨r, ho, el, _⟩
    · rw [el]
      rintro (hs | ⟨hs, hno⟩)
      · exact h.hr.disj i ho hs
      · rcases hsup _ hs with (h1 | h1) | ⟨h1 | h1, -⟩
        · exact h.hr.disj i ho h1
        · obtain ⟨i2, a1, a2, -⟩ := h1
          exact hno ⟨i2, a1, a2⟩
        · exact oldNot i ho hm h1
        · have := h.hr.lt i ho; omega
    · rw [el]
      rintro (hs | ⟨hs, _⟩)
      · exact hr.disj r ho (hsub _ (.inl hs))
      · exact hr.disj r ho hs
  · rcases corr i hi with ⟨_, hm, ho, el⟩ | ⟨r, ho, el, _⟩
    · rw [el]; exact Nat.lt_of_lt_of_le (h.hr.lt i ho) hfr.size
    · rw [el]; exact hr.lt r ho
  · rw [hS2] at hb
    rcases hb with hb | ⟨hb, _⟩
    · exact Nat.lt_of_lt_of_le (h.hr.slt b hb) hfr.size
    · exact hr.slt b hb
  · rcases corr i hi with ⟨_, hm, ho, el⟩ | ⟨r, ho, el, _⟩
    · rw [el]; exact h.own i ho
    · rw [el]
      rcases hown r ho with h1 | h1
      · obtain ⟨i', h2, h3, _⟩ := ownH _ h1
        rw [← h3]; exact h.own i' h2
      · exact .inr (Nat.le_trans h.fr.size h1)
  · rw [hS2] at hb
    rcases hb with hb | ⟨hb, hno⟩
    · exact h.sup' (fun b _ hs => oldblk b (h.hr.slt b hs) (Snot b hs)) b hb
    · rcases hsup _ hb with (h1 | h1) | ⟨h1 | h1, h9⟩
      · exact h.sup' (fun b _ hs => oldblk b (h.hr.slt b hs) (Snot b hs)) b h1
      · obtain ⟨i2, a1, a2, -⟩ := h1
        exact absurd ⟨i2, a1, a2⟩ hno
      · obtain ⟨i', h2, h3, _⟩ := ownH _ h1
        rcases h.own i' h2 with h4 | h4
        · exact .inr ⟨.inl (h3 ▸ h4), h9⟩
        · exact .inr ⟨.inr (h3 ▸ h4), h9⟩
      · exact .inr ⟨.inr (Nat.le_trans h.fr.size h1), h9⟩
  · have hn : ¬ (u ≤ i / 64 ∧ i / 64 < u + 9) := by
      have := hf.1
      unfold argBase at hge
      omega
    rw [i2O i hn]
    rcases hO i hn with ⟨j, hj, hm, hle, hg⟩ | ⟨hm, hg⟩ | ⟨hm, hg⟩
    · have h1 := hq j (by omega)
      rw [Nat.zero_add] at h1
      cases hx : B.getD j (.cv .undef) with
      | obj b =>
        obtain ⟨_, cs', e1, e2⟩ := hBobj j hj b hx
        rw [e1] at h1
        obtain ⟨i', cs', hm', hg', _⟩ := h1
        have : i' = i := by have := mget_of_mem hl.uniq hm'; rw [hm] at this; simp at this; exact this.symm
        subst this
        exact h.loc _ _ hg' trivial hge
      | mutr e ys =>
        obtain ⟨_, xs', e1, e2⟩ := hBmut j hj e ys hx
        rw [e1] at h1
        obtain ⟨i', hm', hg', _⟩ := h1
        have : i' = i := by have := mget_of_mem hl.uniq hm'; rw [hm] at this; simp at this; exact this.symm
        subst this
        exact h.loc _ _ hg' trivial hge
      | _ => rw [hx] at hle; cases hle
    · rw [hg] at hi; cases hi; exact hoo.elim
    · rw [hg] at hi; exact h.loc _ _ hi hoo hge
  · -- the result
    have one : ∀ q, q < out.res.length → ∀ x, AVR ι' (retOb args out) S' w' ((out.res.getD q (.cv .undef)).av (retBase + 64 * q)) x → AVR ι2 H2 S2 w' ((out.res.getD q (.cv .undef)).av (64 * u + q)) x := fun q hq1 x hx => by
      have d1 : (64 * u + q) / 64 = u := by omega
      have d2 : (64 * u + q) % 64 = q := by omega
      refine avC _ _ _ x (resC _ (getD_mem' hq1)) ?_ ?_ (hrR q hq1) hx
      · rw [i2R _ d1, d2]
      · rw [hR _ d1, d2, if_pos hq1]
    have many : ∀ (rs : List OC) (j : Nat), (∀ q, q < rs.length → rs.getD q (.cv .undef) = out.res.getD (j + q) (.cv .undef)) → j + rs.length ≤ out.res.length → ∀ q, q < rs.length → ∀ x,
        AVR ι' (retOb args out) S' w' ((argsAV retBase (rs.map OC.arg) j).getD q (.c .undef)) x → AVR ι2 H2 S2 w' ((impAV u rs j).getD q (.c .undef)) x := by
      intro rs
      induction rs with
      | nil => intro j _ _ q hq1; simp at hq1
      | cons r rs ih =>
        intro j he hle q hq1 x hx
        cases q with
        | zero =>
          have e1 := he 0 (by simp)
          simp only [List.getD_cons_zero, Nat.add_zero] at e1
          have := one j (by simp at hle; omega) x
          rw [← e1] at this
          have e2 : (r.arg).av (retBase + 64 * j) = r.av (retBase + 64 * j) := by cases r <;> rfl
          simp only [List.map_cons, argsAV, List.getD_cons_zero, e2] at hx
          exact this hx
        | succ q =>
          refine ih (j + 1) (fun q' hq' => ?_) (by simp at hle; omega) q (by simpa using hq1) x hx
          have := he (q' + 1) (by simpa using hq')
          rw [List.getD_cons_succ] at this
          rw [this]; congr 1; omega
    unfold retAV at hv
    unfold impRes
    split at hv
    · rename_i r hres
      have := one 0 (by rw [hres]; simp) v
      rw [hres] at this
      simp only [List.getD_cons_zero, Nat.mul_zero, Nat.add_zero] at this
      exact this hv
    · rename_i hres
      obtain ⟨us', rfl, hul, huv⟩ := avr_tup hv
      have il : ∀ (rs : List OC) (j : Nat), (impAV u rs j).length = rs.length := by
        intro rs
        induction rs with
        | nil => intro j; rfl
        | cons r rs ih => intro j; simp [impAV, ih]
      rw [argsAV_len, List.length_map] at hul
      refine .tup _ us' (by rw [il]; exact hul) (fun q hq1 => ?_)
      rw [il] at hq1
      exact many out.res 0 (fun q _ => by rw [Nat.zero_add]) (by omega) q hq1 _ (huv q (by rw [argsAV_len, List.length_map]; exact hq1))
end
def chkAs : List Operand → List (Opd × Mode) → Bool
  | [], [] => true
  | x :: xs, (y, _) :: ys => chkOpd x y && chkAs xs ys
  | _, _ => false
def isB (op : Op) (b : Builtin) : Option (List Operand × List TypeId) :=
  match op with
  | .call c =>
    match c.callee with
    | .builtin b' => if b' == b then some (c.args.toList, c.argTypes.toList) else none
    | _ => none
  | _ => none
def chkOp (P : Program) (op : Op) (io : Ins) : Bool :=
  match io with
  | .mv y =>
    match op with
    | .move x => chkOpd x y
    | .assign x => chkOpd x y
    | _ => false
  | .pick a' b' c' =>
    match op with
    | .pick a b c => chkOpd a a' && chkOpd b b' && chkOpd c c'
    | _ => false
  | .bin bop' x' y' =>
    match op with
    | .binOp bop t x y _ => decide (bop = bop') && chkOpd x x' && chkOpd y y'
    | _ => false
  | .isnil x' neg =>
    match op with
    | .binOp bop t x y _ => decide (bop = if neg then .neq else .eql) && chkOpd x x' && chkOpd y (.c .nilsl) && uSlice P t (fun _ => true)
    | _ => false
  | .beq x' y' =>
    match op with
    | .binOp .eql t x y _ => chkOpd x x' && chkOpd y y' && isBool P t
    | _ => false
  | .bne x' y' =>
    match op with
    | .binOp .neq t x y _ => chkOpd x x' && chkOpd y y' && isBool P t
    | _ => false
  | .mks n z =>
    match op with
    | .makeSlice t l c => chkMks P t l c n z
    | _ => false
  | .not y =>
    match op with
    | .unOp .not _ x => chkOpd x y
    | _ => false
  | .cpl y =>
    match op with
    | .unOp .xor _ x => chkOpd x y
    | _ => false
  | .conv k y =>
    match op with
    | .convert s d x => chkOpd x y && (P.underlying s).isSome && isInt P d k
    | _ => false
  | .b2s y =>
    match op with
    | .convert s d x => chkOpd x y && isStr P d && uSlice P s (fun e => isInt P e .u8)
    | _ => false
  | .s2b y =>
    match op with
    | .convert s d x => chkOpd x y && (P.underlying s).isSome && uSlice P d (fun e => isInt P e .u8)
    | _ => false
  | .len b y =>
    match isB op .len with
    | some ([x], [t]) => chkOpd x y && (if b then isStr P t else uSlice P t fun _ => true)
    | _ => false
  | .mn x' y' =>
    match isB op .min with
    | some ([x, y], [_, _]) => chkOpd x x' && chkOpd y y'
    | _ => false
  | .mx x' y' =>
    match isB op .max with
    | some ([x, y], [_, _]) => chkOpd x x' && chkOpd y y'
    | _ => false
  | .app x' y' esz bytes str =>
    match isB op .append with
    | some ([x, y], [t, xt]) => chkOpd x x' && chkOpd y y' && chkApp P t xt esz bytes str
    | _ => false
  | .call f' ys =>
    match op with
    | .call c =>
      match c.callee with
      | .value f => chkOpd f f' && chkAs c.args.toList ys
      | _ => false
    | _ => false
  | .ext y j =>
    match op with
    | .extract x i => chkOpd x y && decide (i = j)
    | _ => false
  | .sidx x' i' =>
    match op with
    | .index t x i => chkOpd x x' && chkOpd i i' && isStr P t
    | _ => false
  | .aidx n x' i' =>
    match op with
    | .index t x i => chkOpd x x' && chkOpd i i' && (match P.underlying t with | some (.array m e) => decide (m = n) && uAgg P e == some false && szOf P e == some 1 | _ => false)
    | _ => false
  | .fa x' off =>
    match op with
    | .fieldAddr s x f => chkOpd x x' && uField P s f off
    | _ => false
  | .ia x' i' esz =>
    match op with
    | .indexAddr t x i => chkOpd x x' && chkOpd i i' && uSlice P t (fun e => szOf P e == some esz)
    | _ => false
  | .ld x' n =>
    match op with
    | .load t x => chkOpd x x' && chkLoad P t n
    | _ => false
  | .st x' y' n =>
    match op with
    | .store t x y => chkOpd x x' && chkOpd y y' && chkStore P t n
    | _ => false
  | .nck x' =>
    match op with
    | .nilCheck x => chkOpd x x'
    | _ => false
  | .alloc z =>
    match op with
    | .alloc t => chkAlloc P t z
    | _ => false
  | .box x' =>
    match op with
    | .box t x => chkOpd x x'
    | _ => false
  | .bld z ps' =>
    match op with
    | .build t ps => chkBld P t z ps.toList ps'
    | _ => false
  | .bsl esz ps' =>
    match op with
    | .buildSlice t len ps => chkBsl P t len esz ps.toList ps'
    | _ => false
  | .slc x' lo' hi' mx' esz =>
    match op with
    | .slice t x lo hi mx => chkOpd x x' && chkOptd lo lo' && chkOptd hi hi' && chkOptd mx mx' && (!mx.isSome || hi.isSome) && uSlice P t (fun e => szOf P e == some esz)
    | _ => false
  | .ssl x' lo' hi' =>
    match op with
    | .slice t x lo hi mx => !mx.isSome && chkOpd x x' && chkOptd lo lo' && chkOptd hi hi' && isStr P t
    | _ => false
section
variable {P : Program} {C : Ctx} {ι : Nat → Loc} {S : Nat → Nat → Prop} {σ : Slots} {H : LH} {a : Act} {w : World} {o : Oper} {K : AV → List (Nat × LObj) → Prop} {g : Prop} {u : Nat}
theorem uSlice_spec {t : TypeId} {k : TypeId → Bool} (h : uSlice P t k = true) : ∃ e, P.underlying t = some (.slice e) ∧ k e = true := by
  unfold uSlice at h
  split at h
  · rename_i e he; exact ⟨e, he, h⟩
  · cases h
theorem isInt_spec {t : TypeId} {k : IntKind} (h : isInt P t k = true) : P.underlying t = some (.int k) := by
  unfold isInt at h
  split at h
  · rename_i k' hk
    have : k = k' := by simpa using h
    rw [this]; exact hk
  · cases h
theorem isStr_spec {t : TypeId} (h : isStr P t = true) : P.underlying t = some .string := by
  unfold isStr at h
  split at h
  · rename_i hk; exact hk
  · cases h
theorem chkAs_spec (h : R C ι S σ H a w) : ∀ (xs : List Operand) (ys : List (Opd × Mode)), chkAs xs ys = true → xs.length = ys.length ∧
    ∀ q, q < ys.length → AVR ι H S w ((ys.map fun x => (val σ x.1, x.2)).getD q (.c .undef, .plain)).1 ((xs.map a.eval).getD q Go.undef)
  | [], [], _ => ⟨rfl, fun q hq => by simp at hq⟩
  | x :: xs, (y, md) :: ys, hc => by
    simp only [chkAs, Bool.and_eq_true] at hc
    obtain ⟨h1, h2⟩ := chkAs_spec h xs ys hc.2
    refine ⟨by simp [h1], fun q hq => ?_⟩
    cases q with
    | zero => exact ev h hc.1
    | succ q => exact h2 q (by simpa using hq)
  | [], _ :: _, h => by cases h
  | _ :: _, [], h => by cases h
theorem wp_call (h : R C ι S σ H a w) {fo : Operand} {fo' : Opd} {xs : Array Operand} {ts : Array TypeId} {ys : List (Opd × Mode)} (ho : o.op = .call ⟨.value fo, xs, ts⟩) (hfo : chkOpd fo fo' = true) (hx : chkAs xs.toList ys = true)
    (hw : opW P g σ H u (.call fo' ys) K) (hg : g) {N : Act → World → Prop} {Q : Exit → Act → World → Prop}
    (hN : ∀ av ws ι' S' w' v, K av ws → R C ι' S' σ (LH.sets H ws) a w' → AVR ι' (LH.sets H ws) S' w' av v → N (a.put o.dst v) w') : o.wp P a w N Q := by
  have hfv := ev h hfo
  simp only [opW] at hw
  split at hw
  case h_2 => exact hw.elim
  rename_i f e1
  rw [e1] at hfv
  have ef : a.eval fo = .func (.func f) #[] #[] := by
    have hq := avr_c hfv
    generalize a.eval fo = X at hq
    cases hq; rfl
  obtain ⟨hxl, hxv⟩ := chkAs_spec h _ _ hx
  obtain ⟨args, m, V, H', ⟨out, hcw, hlive, hsc, ⟨hfr, hlen, hrl, hbl⟩, hK⟩, hl, hal, hq, hV⟩ := argsW_spec h hg argBase _ (xs.toList.map a.eval) H 0 _ (by simpa using hxl) (by simpa using hxv) (fun i ob hi _ => hi) hw
  obtain ⟨hfn, hbo, hC⟩ := hcw hg
  have hlm : (ys.map fun x => (val σ x.1, x.2)).length = args.length := hal.symm
  rw [hlm] at hl hq
  rw [Nat.zero_add] at hl
  simp only [Nat.mul_zero, Nat.add_zero] at hl
  have hV' : ∀ i ∈ V, (∃ e xs, LH.get H i = some (.row e xs)) ∧ isLive H' i := fun i hi => ⟨hV i hi, hlive i hi⟩
  obtain ⟨hsm, hob⟩ := args_OB (by rfl) hl hq
  have hHR := lend_HR h.hr hl hob hV'
  have hAV := args_AVR (by rfl) hl hq (Hx := argsOb argBase args 0) (fun k ob hk => hk)
  have hcall := hC (lendL ι m) (Sv ι S w V) w (xs.toList.map a.eval) (by rw [List.length_map, hxl, ← hlm, List.length_map]) hAV hHR
  -- the operation enters
  have hrun : (execOp a.eval o).run P w = .ok (.enter f (xs.toList.map a.eval).toArray) w := by
    unfold isFn at hfn
    split at hfn
    case h_2 => cases hfn
    rename_i fn hf
    simp only [Bool.and_eq_true, bne_iff_ne, ne_eq] at hfn
    obtain ⟨bd, hbd⟩ := Option.isSome_iff_exists.1 hfn.2
    have hnm : (fn.name == "runtime.NumGoroutine") = false := by simpa using hfn.1
    have hnone : fn.body.isNone = false := by rw [hbd]; rfl
    have hargs : (xs.map a.eval) = (xs.toList.map a.eval).toArray := by
      rw [← Array.toList_map, Array.toArray_toList]
    simp only [execOp, ho, resolve, ef, Deferred.ofValue, Sem.run_bind, Sem.run_pure, Result.andThen_ok, invoke, callFunc, Array.empty_append, Array.append_empty]
    simp only [program, Sem.run, Result.andThen_ok, hf, hnm, hnone, Bool.false_eq_true, if_false]
    rw [hargs]
    rfl
  unfold Oper.wp
  rw [hrun, Oper.upon_enter]
  refine hcall.mono fun e w' hp => ?_
  obtain ⟨v, ι', S', rfl, r1, r2, r3, r4, r5, r6, r7⟩ := hp
  obtain ⟨ι2, S2, hR2, hv2⟩ := import_R (u := u) h hl hlen hq hV' hbo hsc hfr hrl hbl r1 r2 r3 r4 r5 r6 r7
  exact hN _ _ _ _ _ _ hK hR2 hv2
theorem import_P (h : R C ι S σ H a w) {H' Ha : LH} {m : List (Nat × Option Nat)} {lo hi : Nat} (hl : Lend H H' m lo hi) (hob : OB H m Ha) {w' : World} (hfr : Fr (Handed (lendL ι m) Ha) w w') : R C ι S σ H' a w' := by
  have hnot : ∀ b, Handed (lendL ι m) Ha b → ∃ i, Owned ι H i ∧ (ι i).block = b ∧ LH.get H' i = some .dead := by
    rintro b ⟨id, hown, rfl⟩
    obtain ⟨i, hm, ho1, ho2⟩ := lend_owned hl hob hown
    exact ⟨i, ho1, by rw [ho2], (hl.moved _ _ hm).2⟩
  have hback : ∀ i, Owned ι H' i → Owned ι H i ∧ LH.get H' i = LH.get H i := fun i ho => by
    rcases hl.other i with e | ⟨_, e⟩
    · exact ⟨by unfold Owned at ho ⊢; rw [← e]; exact ho, e⟩
    · unfold Owned at ho; rw [e] at ho; exact ho.elim
  have hsame : ∀ i, Owned ι H i → LH.get H' i = LH.get H i → w'.heap[(ι i).block]? = w.heap[(ι i).block]? := fun i ho e => by
    refine hfr.block _ (h.hr.lt i ho) fun hh => ?_
    obtain ⟨j, hj1, hj2, hj3⟩ := hnot _ hh
    have : j = i := h.hr.inj j i hj1 ho hj2
    subst this
    rw [hj3] at e
    unfold Owned at ho
    rw [← e] at ho
    exact ho
  have hS : ∀ b {o}, S b o → w'.heap[b]? = w.heap[b]? := fun b _ hb => by
    refine hfr.block _ (h.hr.slt b hb) fun hh => ?_
    obtain ⟨j, hj1, hj2, _⟩ := hnot _ hh
    exact h.hr.disj j hj1 (hj2 ▸ hb)
  refine h.upd ⟨hfr.os.trans h.fr.os, hfr.tape.trans h.fr.tape, hfr.output.trans h.fr.output, Nat.le_trans h.fr.size hfr.size, fun b hb hO => ?_⟩
    (fun i o e => ?_) (fun b p x hs hx => ⟨hs, ?_⟩) (fun _ _ h => h) (fun i => ?_) (fun i j hi hj e => h.hr.inj i j (hback i hi).1 (hback j hj).1 e) (fun i hi => h.hr.disj i (hback i hi).1)
    (fun i hi => Nat.lt_of_lt_of_le (h.hr.lt i (hback i hi).1) hfr.size) (fun b _ hb => Nat.lt_of_lt_of_le (h.hr.slt b hb) hfr.size) (fun i hi => h.own i (hback i hi).1) (h.sup' hS) (fun i ob e ho hge => ?_)
  · rw [hfr.block b (Nat.lt_of_lt_of_le hb h.fr.size) fun hh => ?_]
    · exact h.fr.block b hb hO
    · obtain ⟨i, ho1, rfl, _⟩ := hnot _ hh
      rcases h.own i ho1 with hc | hc
      · exact hO hc
      · omega
  · rcases hl.other i with e2 | ⟨_, e2⟩
    · exact ⟨o, by rw [e2]; exact e, Kept.refl _ _ _⟩
    · exact ⟨.dead, e2, by cases o <;> trivial⟩
  · rw [cell_block (hS b hs)]; exact hx
  · rcases hl.other i with e | ⟨_, e⟩
    · exact .inl ⟨e, rfl, fun ho => hsame i ho e⟩
    · right; unfold NewAt; rw [e]; trivial
  · rcases hl.other i with e2 | ⟨_, e2⟩
    · exact h.loc i ob (by rw [← e2]; exact e) ho hge
    · rw [e2] at e; cases e; exact ho.elim
theorem wp_callp (h : R C ι S σ H a w) {fo : Operand} {f : FuncId} {xs : Array Operand} {ts : Array TypeId} {ys : List (Opd × Mode)} (ho : o.op = .call ⟨.value fo, xs, ts⟩) {fo' : Opd} (hfo : chkOpd fo fo' = true) (e1 : val σ fo' = .c (.fn f)) (hx : chkAs xs.toList ys = true)
    {F : TypeId → IntKind → Int → LH → Prop} (hw : argsW True argBase H (ys.map fun x => (val σ x.1, x.2)) 0 fun args m V H' => (∀ i ∈ V, isLive H' i) ∧ ∃ t k n, CWp P f args t k n ∧ F t k n H') {N : Act → World → Prop} {Q : Exit → Act → World → Prop}
    (hN : ∀ t k n H' w', F t k n H' → R C ι S σ H' a w' → Q (.panic [{ v := .iface t (.int k n), recovered := false }]) a w') : o.wp P a w N Q := by
  have hfv := ev h hfo
  rw [e1] at hfv
  have ef : a.eval fo = .func (.func f) #[] #[] := by
    have hq := avr_c hfv
    generalize a.eval fo = X at hq
    cases hq; rfl
  obtain ⟨hxl, hxv⟩ := chkAs_spec h _ _ hx
  obtain ⟨args, m, V, H', ⟨hlive, t, k, n, hcw, hF⟩, hl, hal, hq, hV⟩ := argsW_spec h trivial argBase _ (xs.toList.map a.eval) H 0 _ (by simpa using hxl) (by simpa using hxv) (fun i ob hi _ => hi) hw
  obtain ⟨hfn, hC⟩ := hcw
  have hlm : (ys.map fun x => (val σ x.1, x.2)).length = args.length := hal.symm
  rw [hlm] at hl hq
  rw [Nat.zero_add] at hl
  simp only [Nat.mul_zero, Nat.add_zero] at hl
  have hV' : ∀ i ∈ V, (∃ e xs, LH.get H i = some (.row e xs)) ∧ isLive H' i := fun i hi => ⟨hV i hi, hlive i hi⟩
  obtain ⟨hsm, hob⟩ := args_OB (by rfl) hl hq
  have hHR := lend_HR h.hr hl hob hV'
  have hAV := args_AVR (by rfl) hl hq (Hx := argsOb argBase args 0) (fun k ob hk => hk)
  have hcall := hC (lendL ι m) (Sv ι S w V) w (xs.toList.map a.eval) (by rw [List.length_map, hxl, ← hlm, List.length_map]) hAV hHR
  have hrun : (execOp a.eval o).run P w = .ok (.enter f (xs.toList.map a.eval).toArray) w := by
    unfold isFn at hfn
    split at hfn
    case h_2 => cases hfn
    rename_i fn hf
    simp only [Bool.and_eq_true, bne_iff_ne, ne_eq] at hfn
    obtain ⟨bd, hbd⟩ := Option.isSome_iff_exists.1 hfn.2
    have hnm : (fn.name == "runtime.NumGoroutine") = false := by simpa using hfn.1
    have hnone : fn.body.isNone = false := by rw [hbd]; rfl
    have hargs : (xs.map a.eval) = (xs.toList.map a.eval).toArray := by
      rw [← Array.toList_map, Array.toArray_toList]
    simp only [execOp, ho, resolve, ef, Deferred.ofValue, Sem.run_bind, Sem.run_pure, Result.andThen_ok, invoke, callFunc, Array.empty_append, Array.append_empty]
    simp only [program, Sem.run, Result.andThen_ok, hf, hnm, hnone, Bool.false_eq_true, if_false]
    rw [hargs]
    rfl
  unfold Oper.wp
  rw [hrun, Oper.upon_enter]
  refine hcall.mono fun e w' hp => ?_
  obtain ⟨rfl, hfr⟩ := hp
  exact hN _ _ _ _ _ hF (import_P h hl hob hfr)
theorem op_sound (h : R C ι S σ H a w) {io : Ins} (hc : chkOp P o.op io = true) (hw : opW P g σ H u io K) (hg : g) {N : Act → World → Prop} {Q : Exit → Act → World → Prop}
    (hN : ∀ av ws ι' S' w' v, K av ws → R C ι' S' σ (LH.sets H ws) a w' → AVR ι' (LH.sets H ws) S' w' av v → N (a.put o.dst v) w') : o.wp P a w N Q := by
  have fin : Res P C σ H a w o K → o.wp P a w N Q := fun hr => wp_of_Res hr hN
  have isB_spec : ∀ {b : Builtin} {xs : List Operand} {ts : List TypeId}, isB o.op b = some (xs, ts) → o.op = .call ⟨.builtin b, xs.toArray, ts.toArray⟩ := by
    intro b xs ts hb
    unfold isB at hb
    split at hb
    case h_2 => cases hb
    rename_i c e
    split at hb
    case h_2 => cases hb
    rename_i b' e2
    split at hb
    case isFalse => cases hb
    rename_i e3
    injection hb with hb
    injection hb with h1 h2
    rw [e]
    obtain ⟨cl, ca, ct⟩ := c
    simp only at e2 h1 h2
    subst e2; subst h1; subst h2
    have : b' = b := by simpa using e3
    subst this
    simp
  unfold chkOp at hc
  cases io with
  | mv y =>
    simp only at hc
    split at hc
    · rename_i e; exact fin (res_mv h (.inl e) hc hw)
    · rename_i e; exact fin (res_mv h (.inr e) hc hw)
    · cases hc
  | pick a' b' c' =>
    simp only at hc
    split at hc
    case h_2 => cases hc
    rename_i e
    simp only [Bool.and_eq_true] at hc
    exact fin (res_pick h e hc.1.1 hc.1.2 hc.2 hw hg)
  | bin bop' x' y' =>
    simp only at hc
    split at hc
    case h_2 => cases hc
    rename_i e
    simp only [Bool.and_eq_true, decide_eq_true_eq] at hc
    obtain ⟨⟨rfl, h1⟩, h2⟩ := hc
    exact fin (res_bin h e h1 h2 hw hg)
  | isnil x' neg =>
    simp only at hc
    split at hc
    case h_2 => cases hc
    rename_i e
    simp only [Bool.and_eq_true, decide_eq_true_eq] at hc
    exact fin (res_isnil h e hc.1.1.2 hc.1.2 hc.1.1.1 hc.2 hw hg)
  | beq x' y' =>
    simp only at hc
    split at hc
    case h_2 => cases hc
    rename_i e
    simp only [Bool.and_eq_true] at hc
    exact fin (res_beq h e hc.1.1 hc.1.2 hc.2 hw hg)
  | bne x' y' =>
    simp only at hc
    split at hc
    case h_2 => cases hc
    rename_i e
    simp only [Bool.and_eq_true] at hc
    exact fin (res_bne h e hc.1.1 hc.1.2 hc.2 hw hg)
  | mks n z =>
    simp only at hc
    split at hc
    case h_2 => cases hc
    rename_i e
    exact fin (res_mks h e hc hw)
  | not y =>
    simp only at hc
    split at hc
    case h_2 => cases hc
    rename_i e
    exact fin (res_not h e hc hw hg)
  | cpl y =>
    simp only at hc
    split at hc
    case h_2 => cases hc
    rename_i e
    exact fin (res_cpl h e hc hw hg)
  | conv k y =>
    simp only at hc
    split at hc
    case h_2 => cases hc
    rename_i e
    simp only [Bool.and_eq_true] at hc
    exact fin (res_conv h e hc.1.1 hc.1.2 hc.2 hw hg)
  | b2s y =>
    simp only at hc
    split at hc
    case h_2 => cases hc
    rename_i e
    simp only [Bool.and_eq_true] at hc
    obtain ⟨e8, he, h8⟩ := uSlice_spec hc.2
    exact fin (res_b2s h e hc.1.1 he (isInt_spec h8) (isStr_spec hc.1.2) hw hg)
  | s2b y =>
    simp only at hc
    split at hc
    case h_2 => cases hc
    rename_i e
    simp only [Bool.and_eq_true] at hc
    obtain ⟨e8, he, h8⟩ := uSlice_spec hc.2
    exact fin (res_s2b h e hc.1.1 hc.1.2 he (isInt_spec h8) hw)
  | len b y =>
    simp only at hc
    split at hc
    case h_2 => cases hc
    rename_i e
    simp only [Bool.and_eq_true] at hc
    exact fin (res_len h (isB_spec e) hc.1 hc.2 hw hg)
  | mn x' y' =>
    simp only at hc
    split at hc
    case h_2 => cases hc
    rename_i e
    simp only [Bool.and_eq_true] at hc
    exact fin (res_mn h (isB_spec e) hc.1 hc.2 hw hg)
  | mx x' y' =>
    simp only at hc
    split at hc
    case h_2 => cases hc
    rename_i e
    simp only [Bool.and_eq_true] at hc
    exact fin (res_mx h (isB_spec e) hc.1 hc.2 hw hg)
  | app x' y' esz bytes str =>
    simp only at hc
    split at hc
    case h_2 => cases hc
    rename_i e
    simp only [Bool.and_eq_true] at hc
    exact fin (res_app h (isB_spec e) hc.1.1 hc.1.2 hc.2 hw)
  | call f' ys =>
    simp only at hc
    split at hc
    case h_2 => cases hc
    rename_i c e
    split at hc
    case h_2 => cases hc
    rename_i f e2
    simp only [Bool.and_eq_true] at hc
    obtain ⟨cl, ca, ct⟩ := c
    simp only at e2 hc
    subst e2
    exact wp_call h e hc.1 hc.2 hw hg hN
  | ext y j =>
    simp only at hc
    split at hc
    case h_2 => cases hc
    rename_i e
    simp only [Bool.and_eq_true, decide_eq_true_eq] at hc
    obtain ⟨h1, rfl⟩ := hc
    exact fin (res_ext h e h1 hw hg)
  | sidx x' i' =>
    simp only at hc
    split at hc
    case h_2 => cases hc
    rename_i e
    simp only [Bool.and_eq_true] at hc
    exact fin (res_sidx h e hc.1.1 hc.1.2 hc.2 hw hg)
  | aidx n x' i' =>
    simp only at hc
    split at hc
    case h_2 => cases hc
    rename_i e
    simp only [Bool.and_eq_true] at hc
    obtain ⟨⟨h1, h2⟩, h3⟩ := hc
    split at h3
    · rename_i mm e9 he
      simp only [Bool.and_eq_true, decide_eq_true_eq, beq_iff_eq] at h3
      obtain ⟨⟨rfl, h4⟩, h5⟩ := h3
      exact fin (res_aidx h e h1 h2 he h4 h5 hw hg)
    · cases h3
  | fa x' off =>
    simp only at hc
    split at hc
    case h_2 => cases hc
    rename_i e
    simp only [Bool.and_eq_true] at hc
    exact fin (res_fa h e hc.1 hc.2 hw hg)
  | ia x' i' esz =>
    simp only at hc
    split at hc
    case h_2 => cases hc
    rename_i e
    simp only [Bool.and_eq_true] at hc
    obtain ⟨e8, he, h8⟩ := uSlice_spec hc.2
    exact fin (res_ia h e hc.1.1 hc.1.2 he (by simpa using h8) hw hg)
  | ld x' n =>
    simp only at hc
    split at hc
    case h_2 => cases hc
    rename_i e
    simp only [Bool.and_eq_true] at hc
    exact fin (res_ld h e hc.1 hc.2 hw hg)
  | st x' y' n =>
    simp only at hc
    split at hc
    case h_2 => cases hc
    rename_i e
    simp only [Bool.and_eq_true] at hc
    exact fin (res_st h e hc.1.1 hc.1.2 hc.2 hw)
  | nck x' =>
    simp only at hc
    split at hc
    case h_2 => cases hc
    rename_i e
    exact fin (res_nck h e hc hw hg)
  | alloc z =>
    simp only at hc
    split at hc
    case h_2 => cases hc
    rename_i e
    exact fin (res_alloc h e hc hw)
  | box x' =>
    simp only at hc
    split at hc
    case h_2 => cases hc
    rename_i e
    exact fin (res_box h e hc hw)
  | bld z ps' =>
    simp only at hc
    split at hc
    case h_2 => cases hc
    rename_i e
    exact fin (res_bld h e hc hw hg)
  | bsl esz ps' =>
    simp only at hc
    split at hc
    case h_2 => cases hc
    rename_i e
    exact fin (res_bsl h e hc hw)
  | slc x' lo' hi' mx' esz =>
    simp only at hc
    split at hc
    case h_2 => cases hc
    rename_i e
    simp only [Bool.and_eq_true, Bool.or_eq_true, Bool.not_eq_true'] at hc
    obtain ⟨e8, he, h8⟩ := uSlice_spec hc.2
    refine fin (res_slc h e hc.1.1.1.1.1 hc.1.1.1.1.2 hc.1.1.1.2 hc.1.1.2 (fun hs => ?_) he (by simpa using h8) hw hg)
    rcases hc.1.2 with h9 | h9
    · rw [h9] at hs; cases hs
    · exact h9
  | ssl x' lo' hi' =>
    simp only at hc
    split at hc
    case h_2 => cases hc
    rename_i mx e
    simp only [Bool.and_eq_true, Bool.not_eq_true'] at hc
    have hm : mx = none := by
      cases mx with
      | none => rfl
      | some _ => simp at hc
    subst hm
    exact fin (res_ssl h e hc.1.1.1.2 hc.1.1.2 hc.1.2 (isStr_spec hc.2) hw hg)
end
section
variable {P : Program} {C : Ctx} {ι : Nat → Loc} {S : Nat → Nat → Prop} {σ : Slots} {H : LH} {a : Act} {w : World} {o : Oper} {g : Prop} {u : Nat}
theorem rc_ung {v : AV} {F : AV → Prop} (h : ungW g v F) : ∃ v', F v' := by
  unfold ungW at h
  split at h
  · exact ⟨_, h.2⟩
  · exact ⟨_, h⟩
theorem rc_pick {t : Bool} {x y : AV} {F : AV → Prop} (h : pickW g t x y F) : ∃ v', F v' := by
  unfold pickW at h
  split at h
  · exact ⟨_, h⟩
  · exact ⟨_, h.2⟩
  · exact ⟨_, h.2⟩
  · exact ⟨_, h.2.2⟩
  · exact ⟨_, h.2⟩
  · exact ⟨_, h.2⟩
  · exact ⟨_, h.2⟩
  · exact ⟨_, h.2⟩
  · exact h.elim
theorem rc_binI {op : BinOp} {k : IntKind} {x y : Int} {F : CV → Prop} (h : binI g op k x y F) : ∃ v', F v' := by
  unfold binI at h
  split at h <;> first | exact ⟨_, h⟩ | exact ⟨_, h.2⟩ | exact h.elim
theorem rc_bin {op : BinOp} {x y : AV} {F : CV → Prop} (h : binW g op x y F) : ∃ v', F v' := by
  obtain ⟨v1, h⟩ := rc_ung h
  obtain ⟨v2, h⟩ := rc_ung h
  split at h
  · split at h
    · exact ⟨_, h.2⟩
    · exact ⟨_, h.2⟩
    · exact rc_binI h.2
  · unfold binS at h
    split at h <;> first | exact ⟨_, h⟩ | exact h.elim
  · unfold binF at h
    split at h <;> first | exact ⟨_, h⟩ | exact h.elim
  · exact h.elim
theorem rc_len {b : Bool} {x : AV} {F : Nat → Prop} (h : lenW g H b x F) : ∃ v', F v' := by
  obtain ⟨v1, h⟩ := rc_ung h
  split at h
  · exact ⟨_, h⟩
  · exact ⟨_, h⟩
  · exact ⟨_, h⟩
  · split at h <;> first | exact ⟨_, h⟩ | exact h.elim
  · exact h.elim
theorem rc_elems {b : Bool} {e : Nat} {x : AV} {F : List CV → Prop} (h : elemsW H b e x F) : ∃ v', F v' := by
  unfold elemsW at h
  split at h
  · exact ⟨_, h⟩
  · exact ⟨_, h.2⟩
  · exact ⟨_, h.2⟩
  · split at h <;> first | exact ⟨_, h.2⟩ | exact h.elim
  · exact h.elim
theorem rc_closed : ∀ {l : List AV} {F : List CV → Prop}, closedW l F → ∃ v', F v' := fun h => by
  obtain ⟨vs, _, h⟩ := closedW_spec h
  exact ⟨vs, h⟩
theorem rc_load {x : AV} {n : Option Nat} {F : AV → Prop} (h : loadW g H x n F) : ∃ v', F v' := by
  obtain ⟨v1, h⟩ := rc_ung h
  split at h
  · split at h
    · split at h
      · exact ⟨_, h.2⟩
      · obtain ⟨_, h⟩ := rc_closed h.2; exact ⟨_, h⟩
    · exact h.elim
  · split at h
    · unfold ldRow at h
      split at h <;> exact ⟨_, h.2⟩
    · unfold ldRow at h
      split at h <;> exact ⟨_, h.2⟩
    · exact h.elim
  · split at h <;> exact ⟨_, h.2⟩
  · exact h.elim
theorem rc_store {x v : AV} {n : Option Nat} {F : List (Nat × LObj) → Prop} (h : storeW H x v n F) : ∃ v', F v' := by
  unfold storeW at h
  split at h
  · split at h
    · split at h
      · exact ⟨_, h.2.2⟩
      · split at h <;> first | exact ⟨_, h.2⟩ | exact h.elim
    · exact h.elim
  · split at h
    · split at h
      · exact ⟨_, h.2.2⟩
      · exact ⟨_, h.2⟩
      · exact h.elim
    · exact h.elim
  · exact h.elim
theorem rc_bld {σ : Slots} : ∀ {ps : List (Nat × Opd)} {z : List CV} {F : List CV → Prop}, bldW σ g z ps F → ∃ v', F v'
  | [], z, F, h => ⟨_, h⟩
  | (i, x) :: ps, z, F, h => by
    obtain ⟨v1, h⟩ := rc_ung h
    split at h
    · exact rc_bld h.2
    · exact h.elim
theorem rc_opt {x : Option Opd} {F : Option Int → Prop} (h : optI g σ x F) : ∃ v', F v' := by
  unfold optI at h
  split at h
  · exact ⟨_, h⟩
  · obtain ⟨v1, h⟩ := rc_ung h
    split at h <;> first | exact ⟨_, h⟩ | exact h.elim
theorem rc_cells {base : Nat} {ms : List (Option Nat)} {cs : List AV} {k : Nat} {F : List OC → List (Nat × Option Nat) → LH → Prop} (h : cellsW base H ms cs k F) : ∃ l m H', F l m H' := by
  obtain ⟨l, m, H', h, _⟩ := cellsW_spec base ms cs H k F h
  exact ⟨l, m, H', h⟩
theorem rc_arg {id : Nat} {v : AV} {md : Mode} {F : Arg → List (Nat × Option Nat) → List Nat → LH → Prop} (h : argW g H id v md F) : ∃ a m V H', F a m V H' := by
  cases md with
  | plain =>
    obtain ⟨v1, h⟩ := rc_ung h
    split at h <;> first | exact ⟨_, _, _, _, h⟩ | exact h.elim
  | view e =>
    obtain ⟨v1, h⟩ := rc_ung h
    split at h
    · exact ⟨_, _, _, _, h⟩
    · exact ⟨_, _, _, _, h⟩
    · split at h <;> first | exact ⟨_, _, _, _, h⟩ | exact h.elim
    · exact h.elim
  | move e =>
    simp only [argW] at h
    split at h
    · exact ⟨_, _, _, _, h⟩
    · split at h <;> first | exact ⟨_, _, _, _, h.2⟩ | exact h.elim
    · exact h.elim
  | mutr =>
    simp only [argW] at h
    split at h
    · split at h <;> first | exact ⟨_, _, _, _, h.2⟩ | exact h.elim
    · exact h.elim
  | ptr ms =>
    simp only [argW] at h
    split at h
    · split at h
      · obtain ⟨l, m, H', h⟩ := rc_cells h.2; exact ⟨_, _, _, _, h⟩
      · exact h.elim
    · exact h.elim
theorem rc_args (base : Nat) : ∀ (l : List (AV × Mode)) (H : LH) (j : Nat) (F : List Arg → List (Nat × Option Nat) → List Nat → LH → Prop), argsW g base H l j F → ∃ a m V H', F a m V H'
  | [], H, j, F, h => ⟨_, _, _, _, h⟩
  | (v, md) :: l, H, j, F, h => by
    obtain ⟨a, m, V, H', h⟩ := rc_arg h
    obtain ⟨as0, m', V', H'', h⟩ := rc_args base l H' (j + 1) _ h
    exact ⟨_, _, _, _, h⟩
theorem rc_op {io : Ins} {K : AV → List (Nat × LObj) → Prop} (h : opW P g σ H u io K) : ∃ av ws, K av ws := by
  cases io with
  | mv x => exact ⟨_, _, h⟩
  | pick c x y =>
    obtain ⟨v1, h⟩ := rc_ung h
    split at h
    · obtain ⟨v, h⟩ := rc_pick h; exact ⟨_, _, h⟩
    · exact h.elim
  | bin op x y => obtain ⟨v, h⟩ := rc_bin h; exact ⟨_, _, h⟩
  | not x =>
    obtain ⟨v1, h⟩ := rc_ung h
    split at h <;> first | exact ⟨_, _, h⟩ | exact h.elim
  | cpl x =>
    obtain ⟨v1, h⟩ := rc_ung h
    split at h <;> first | exact ⟨_, _, h⟩ | exact h.elim
  | conv k x =>
    obtain ⟨v1, h⟩ := rc_ung h
    split at h <;> first | exact ⟨_, _, h⟩ | exact h.elim
  | b2s x =>
    obtain ⟨v1, h⟩ := rc_ung h
    obtain ⟨xs, h⟩ := rc_elems h
    exact ⟨_, _, h.2⟩
  | s2b x =>
    simp only [opW] at h
    split at h <;> first | exact ⟨_, _, h.2.2⟩ | exact h.elim
  | len b x => simp only [opW] at h; obtain ⟨v, h⟩ := rc_len h; exact ⟨_, _, h⟩
  | mn x y =>
    obtain ⟨v1, h⟩ := rc_ung h
    obtain ⟨v2, h⟩ := rc_ung h
    split at h <;> first | exact ⟨_, _, h.2⟩ | exact h.elim
  | mx x y =>
    obtain ⟨v1, h⟩ := rc_ung h
    obtain ⟨v2, h⟩ := rc_ung h
    split at h <;> first | exact ⟨_, _, h.2⟩ | exact h.elim
  | ext x i =>
    obtain ⟨v1, h⟩ := rc_ung h
    split at h <;> first | exact ⟨_, _, h.2⟩ | exact h.elim
  | sidx x i =>
    obtain ⟨v1, h⟩ := rc_ung h
    obtain ⟨v2, h⟩ := rc_ung h
    split at h <;> first | exact ⟨_, _, h.2⟩ | exact h.elim
  | aidx n x i =>
    obtain ⟨v1, h⟩ := rc_ung h
    obtain ⟨v2, h⟩ := rc_ung h
    split at h <;> first | exact ⟨_, _, h.2.2⟩ | exact h.elim
  | fa x off =>
    obtain ⟨v1, h⟩ := rc_ung h
    split at h
    · split at h <;> first | exact ⟨_, _, h.2⟩ | exact h.elim
    · split at h <;> first | exact ⟨_, _, h⟩ | exact h.elim
    · exact ⟨_, _, h⟩
    · exact h.elim
  | ia x i e =>
    obtain ⟨v1, h⟩ := rc_ung h
    obtain ⟨v2, h⟩ := rc_ung h
    split at h
    · split at h <;> first | exact ⟨_, _, h.2.2⟩ | exact h.elim
    · exact ⟨_, _, h.2.2⟩
    · exact h.elim
  | ld x n => simp only [opW] at h; obtain ⟨v, h⟩ := rc_load h; exact ⟨_, _, h⟩
  | st x v n => obtain ⟨ws, h⟩ := rc_store h; exact ⟨_, _, h⟩
  | nck x =>
    obtain ⟨v1, h⟩ := rc_ung h
    split at h
    · split at h <;> first | exact ⟨_, _, h⟩ | exact h.elim
    · exact ⟨_, _, h⟩
    · split at h <;> first | exact ⟨_, _, h⟩ | exact h.elim
    · exact h.elim
  | alloc z => exact ⟨_, _, h.2⟩
  | box x =>
    simp only [opW] at h
    split at h
    · exact ⟨_, _, h.2⟩
    · exact ⟨_, _, h.2⟩
  | bld z ps => obtain ⟨v, h⟩ := rc_bld h; exact ⟨_, _, h⟩
  | bsl e ps => obtain ⟨v, h⟩ := rc_closed h; exact ⟨_, _, h.2⟩
  | slc x lo hi mx e =>
    obtain ⟨v1, h⟩ := rc_ung h
    obtain ⟨_, h⟩ := rc_opt h
    obtain ⟨_, h⟩ := rc_opt h
    obtain ⟨_, h⟩ := rc_opt h
    split at h
    · split at h <;> first | exact ⟨_, _, h.2.2.2⟩ | exact h.elim
    · exact ⟨_, _, h.2.2⟩
    · exact ⟨_, _, h.2⟩
    · exact h.elim
  | ssl x lo hi =>
    obtain ⟨v1, h⟩ := rc_ung h
    obtain ⟨_, h⟩ := rc_opt h
    obtain ⟨_, h⟩ := rc_opt h
    split at h <;> first | exact ⟨_, _, h.2⟩ | exact h.elim
  | app x y e b s =>
    simp only [opW] at h
    obtain ⟨ys, h⟩ := rc_elems h
    split at h
    · exact ⟨_, _, h.2⟩
    · split at h <;> first | exact ⟨_, _, h.2⟩ | exact h.elim
    · exact h.elim
  | call f as0 =>
    simp only [opW] at h
    split at h
    · obtain ⟨_, _, _, _, h⟩ := rc_args _ _ _ _ _ h
      obtain ⟨out, _, _, _, _, h⟩ := h
      exact ⟨_, _, h⟩
    · exact h.elim
  | beq x y =>
    obtain ⟨v1, h⟩ := rc_ung h
    obtain ⟨v2, h⟩ := rc_ung h
    split at h <;> first | exact ⟨_, _, h⟩ | exact h.elim
  | bne x y =>
    obtain ⟨v1, h⟩ := rc_ung h
    obtain ⟨v2, h⟩ := rc_ung h
    split at h <;> first | exact ⟨_, _, h⟩ | exact h.elim
  | mks n z => exact ⟨_, _, h.2⟩
  | isnil x neg =>
    obtain ⟨v1, h⟩ := rc_ung h
    split at h
    · exact ⟨_, _, h⟩
    · exact ⟨_, _, h.2⟩
    · split at h <;> first | exact ⟨_, _, h.2⟩ | exact h.elim
    · exact h.elim
def chkIOp (P : Program) (n : Nat) (ops : Array Oper) (o : Oper) (i : IOp) : Bool :=
  (o.dst == i.d) && (match i.d with | some d => decide (d < n) | none => true) &&
  (match o.guard with
    | none => i.g.isNone
    | some (j, w) =>
      match i.g with
      | some (t, w') => ((ops[j]?).bind (·.dst) == some t) && (w == w')
      | none => false) && chkOp P o.op i.io
theorem flat_avr {b : Bool} {v : AV} {x : Value} (h : AVR ι H S w (.grd b v) x) : AVR ι H S w (flat b v) x := by
  cases v <;> try exact h
  rename_i b' v'
  cases h with
  | grd _ _ _ h1 h2 =>
    refine .grd _ _ _ (fun hb => ?_) (fun hb => ?_)
    · simp at hb
      cases h1 hb.1 with
      | grd _ _ _ h3 h4 => exact h3 hb.2
    · cases b with
      | false => exact h2 rfl
      | true =>
        simp at hb
        cases h1 rfl with
        | grd _ _ _ h3 h4 => exact h4 hb
theorem step_sound (h : R C ι S σ H a w) {ops : Array Oper} {i : IOp} {K : AV → List (Nat × LObj) → Prop} (hc : chkIOp P C.n ops o i = true) (hw : stepW P σ H i K) {N : Act → World → Prop} {Q : Exit → Act → World → Prop}
    (hN : ∀ av ws ι' S' w' v, K av ws → R C ι' S' σ (LH.sets H ws) a w' → AVR ι' (LH.sets H ws) S' w' av v → N (a.put o.dst v) w') :
    (Region.wanted o (yielded ops a.tmps) = true → o.wp P a w N Q) ∧ (Region.wanted o (yielded ops a.tmps) = false → N (a.put o.dst undef) w) := by
  simp only [chkIOp, Bool.and_eq_true, beq_iff_eq] at hc
  obtain ⟨⟨⟨hd, hlt⟩, hgd⟩, hop⟩ := hc
  unfold stepW at hw
  split at hw
  · rename_i hg
    have hno : o.guard = none := by
      cases hgu : o.guard with
      | none => rfl
      | some jw => rw [hgu] at hgd; obtain ⟨j, w1⟩ := jw; simp [hg] at hgd
    refine ⟨fun _ => op_sound h hop hw trivial hN, fun hf => ?_⟩
    simp [Region.wanted, hno] at hf
  · rename_i t want hg
    have hgu : ∃ j, o.guard = some (j, want) ∧ (ops[j]?).bind (·.dst) = some t := by
      cases hgu : o.guard with
      | none => rw [hgu] at hgd; simp [hg] at hgd
      | some jw =>
        obtain ⟨j, w1⟩ := jw
        rw [hgu] at hgd
        simp only [hg, Bool.and_eq_true, beq_iff_eq] at hgd
        exact ⟨j, by rw [hgd.2], hgd.1⟩
    obtain ⟨j, hgu, hj⟩ := hgu
    have hy : yielded ops a.tmps j = match a.tmps[t]? with | some (.bool b) => some b | _ => none := by
      unfold yielded
      rw [hj]
      rfl
    have hsl := h.sl t
    have main : ∀ (b : Bool), (b = true → a.tmps.getD t Go.undef = .bool want) → (b = false → ∀ c, a.tmps[t]? = some (.bool c) → c ≠ want) →
        ((opW P (b = true) σ H i.u i.io fun v ws => ws = [] ∧ K (flat b v) []) ∨ (b = false ∧ ∃ v, K (flat b v) [])) →
        (Region.wanted o (yielded ops a.tmps) = true → o.wp P a w N Q) ∧ (Region.wanted o (yielded ops a.tmps) = false → N (a.put o.dst undef) w) := by
      intro b hb1 hb2 hopw
      cases b with
      | true =>
        have hv := hb1 rfl
        have ht : a.tmps[t]? = some (.bool want) := by
          rw [Array.getD_eq_getD_getElem?] at hv
          cases hx : a.tmps[t]? with
          | none => rw [hx] at hv; simp [Go.undef] at hv
          | some x => rw [hx] at hv; simp at hv; rw [hv]
        have hwant : Region.wanted o (yielded ops a.tmps) = true := by
          simp [Region.wanted, hgu, hy, ht]
        have hopw := hopw.resolve_right (fun hx => by cases hx.1)
        refine ⟨fun _ => op_sound h hop hopw rfl (fun av ws ι' S' w' v hk hR hv => ?_), fun hf => by rw [hwant] at hf; cases hf⟩
        obtain ⟨rfl, hk⟩ := hk
        exact hN _ _ ι' S' w' v hk hR (flat_avr (.grd _ _ _ (fun _ => hv) (fun hf => by cases hf)))
      | false =>
        have hb2 := hb2 rfl
        have hwant : Region.wanted o (yielded ops a.tmps) = false := by
          simp only [Region.wanted, hgu, hy]
          cases hx : a.tmps[t]? with
          | none => simp
          | some x =>
            cases x with
            | bool c =>
              have := hb2 c hx
              simp [this]
            | _ => simp
        refine ⟨fun hf => (by rw [hwant] at hf; cases hf), fun _ => ?_⟩
        have hkk : ∃ av, K (flat false av) [] := by
          rcases hopw with hopw | ⟨_, hx⟩
          · obtain ⟨av, ws, rfl, hk⟩ := rc_op hopw; exact ⟨av, hk⟩
          · exact hx
        obtain ⟨av, hk⟩ := hkk
        exact hN _ _ ι S w _ hk h (flat_avr (.grd _ _ _ (fun hf => by cases hf) (fun _ => rfl)))
    split at hw
    · rename_i b hs
      rw [hs] at hsl
      have hv := avr_bool (v := .c (.bool b)) hsl
      refine main (b == want) (fun hb => by rw [hv]; simp at hb; rw [hb]) (fun hb c hc => ?_) hw
      have : a.tmps.getD t Go.undef = .bool c := by rw [Array.getD_eq_getD_getElem?, hc]; rfl
      rw [hv] at this
      simp at this hb
      rw [← this]; exact hb
    · rename_i b' b hs
      rw [hs] at hsl
      cases hsl with
      | grd _ _ _ h1 h2 =>
        refine main (b' && (b == want)) (fun hb => ?_) (fun hb c hc => ?_) hw
        · simp at hb
          rw [avr_bool (v := .c (.bool b)) (h1 hb.1), hb.2]
        · have he : a.tmps.getD t Go.undef = .bool c := by rw [Array.getD_eq_getD_getElem?, hc]; rfl
          cases b' with
          | false => rw [h2 rfl] at he; simp [Go.undef] at he
          | true =>
            rw [avr_bool (v := .c (.bool b)) (h1 rfl)] at he
            simp at he hb
            rw [← he]; exact hb
    · exact hw.elim
def chkOps (P : Program) (n : Nat) (ops : Array Oper) : List Oper → List IOp → Bool
  | [], [] => true
  | o :: l, i :: l' => chkIOp P n ops o i && chkOps P n ops l l'
  | _, _ => false
theorem opsP_sound {ops : Array Oper} {Q : Exit → Act → World → Prop} {l2 : List Oper} : ∀ (l : List Oper) (l' : List IOp) {ι : Nat → Loc} {S : Nat → Nat → Prop} {σ : Slots} {H : LH} {a : Act} {w : World} {K : Slots → LH → Prop},
    chkOps P C.n ops l l' = true → R C ι S σ H a w → opsW P l' σ H K → (∀ ι S σ H a w, K σ H → R C ι S σ H a w → wpList P ops Q l2 a w) → wpList P ops Q (l ++ l2) a w
  | [], [], ι, S, σ, H, a, w, K, _, h, hw, hq => hq ι S σ H a w hw h
  | o :: l, i :: l', ι, S, σ, H, a, w, K, hc, h, hw, hq => by
    simp only [chkOps, Bool.and_eq_true] at hc
    have hst := step_sound (Q := Q) h hc.1 hw (N := wpList P ops Q (l ++ l2)) (fun av ws ι' S' w' v hk hR hv => by
      have hi := hc.1
      simp only [chkIOp, Bool.and_eq_true, beq_iff_eq] at hi
      have hd : o.dst = i.d := hi.1.1.1
      refine opsP_sound l l' hc.2 (hR.put (d := o.dst) hv (fun k hk1 => ?_)) (by rw [hd]; exact hk) hq
      have := hi.1.1.2
      rw [hd] at hk1
      rw [hk1] at this
      simpa using this)
    rw [List.cons_append]
    unfold wpList
    by_cases hwant : Region.wanted o (yielded ops a.tmps) = true
    · rw [if_pos hwant]; exact .inl (hst.1 hwant)
    · rw [if_neg hwant]; exact hst.2 (by simpa using hwant)
  | [], _ :: _, _, _, _, _, _, _, _, hc, _, _, _ => by cases hc
  | _ :: _, [], _, _, _, _, _, _, _, hc, _, _, _ => by cases hc
def chkOpsC (P : Program) (n : Nat) (ops : Array Oper) : List Oper → List IOp → IOp → Bool
  | [o], [], j => chkIOp P n ops o j
  | o :: l, i :: l', j => chkIOp P n ops o i && chkOpsC P n ops l l' j
  | _, _, _ => false
theorem ops_sound {ops : Array Oper} {Q : Exit → Act → World → Prop} : ∀ (l : List Oper) (l' : List IOp) {ι : Nat → Loc} {S : Nat → Nat → Prop} {σ : Slots} {H : LH} {a : Act} {w : World} {K : Slots → LH → Prop},
    chkOps P C.n ops l l' = true → R C ι S σ H a w → opsW P l' σ H K → (∀ ι S σ H a w, K σ H → R C ι S σ H a w → Q .normal a w) → wpList P ops Q l a w
  | [], [], ι, S, σ, H, a, w, K, _, h, hw, hq => hq ι S σ H a w hw h
  | o :: l, i :: l', ι, S, σ, H, a, w, K, hc, h, hw, hq => by
    simp only [chkOps, Bool.and_eq_true] at hc
    have hst := step_sound (Q := Q) h hc.1 hw (N := wpList P ops Q l) (fun av ws ι' S' w' v hk hR hv => by
      have hi := hc.1
      simp only [chkIOp, Bool.and_eq_true, beq_iff_eq] at hi
      have hd : o.dst = i.d := hi.1.1.1
      refine ops_sound l l' hc.2 (hR.put (d := o.dst) hv (fun k hk1 => ?_)) (by rw [hd]; exact hk) hq
      have := hi.1.1.2
      rw [hd] at hk1
      rw [hk1] at this
      simpa using this)
    unfold wpList
    by_cases hwant : Region.wanted o (yielded ops a.tmps) = true
    · rw [if_pos hwant]; exact .inl (hst.1 hwant)
    · rw [if_neg hwant]; exact hst.2 (by simpa using hwant)
  | [], _ :: _, _, _, _, _, _, _, _, hc, _, _, _ => by cases hc
  | _ :: _, [], _, _, _, _, _, _, _, hc, _, _, _ => by cases hc
def callX (P : Program) (σ : List (Nat × AV)) (H : List (Nat × LObj)) (u : Nat) (f : Opd) (as0 : List (Opd × Mode)) (K : AV → List (Nat × LObj) → Prop) (F : TypeId → IntKind → Int → LH → Prop) : Prop :=
  opW P True σ H u (.call f as0) K ∨ ∃ f', val σ f = .c (.fn f') ∧ argsW True argBase H (as0.map fun x => (val σ x.1, x.2)) 0 fun args m V H' => (∀ i ∈ V, isLive H' i) ∧ ∃ t k n, CWp P f' args t k n ∧ F t k n H'
theorem opsC_sound {ops : Array Oper} {Q : Exit → Act → World → Prop} {d : Option Nat} {u : Nat} {f : Opd} {as0 : List (Opd × Mode)} : ∀ (l : List Oper) (l' : List IOp) {ι : Nat → Loc} {S : Nat → Nat → Prop} {σ : Slots} {H : LH} {a : Act} {w : World} {K : Slots → LH → Prop} {F : TypeId → IntKind → Int → Slots → LH → Prop},
    chkOpsC P C.n ops l l' ⟨d, u, none, .call f as0⟩ = true → R C ι S σ H a w → (opsW P l' σ H fun σ H => callX P σ H u f as0 (fun v ws => K (Slots.put σ d v) (LH.sets H ws)) fun t k n H' => F t k n σ H') →
    (∀ ι S σ H a w, K σ H → R C ι S σ H a w → Q .normal a w) → (∀ t k n ι S σ H a w, F t k n σ H → R C ι S σ H a w → Q (.panic [{ v := .iface t (.int k n), recovered := false }]) a w) → wpList P ops Q l a w
  | [o], [], ι, S, σ, H, a, w, K, F, hc, h, hw, hq, hp => by
    have hc' : chkIOp P C.n ops o ⟨d, u, none, .call f as0⟩ = true := hc
    have hno : o.guard = none := by
      simp only [chkIOp, Bool.and_eq_true] at hc'
      cases hgu : o.guard with
      | none => rfl
      | some jw => rw [hgu] at hc'; obtain ⟨j, w1⟩ := jw; simp at hc'
    have hd : o.dst = d := by simp only [chkIOp, Bool.and_eq_true, beq_iff_eq] at hc'; exact hc'.1.1.1
    have hlt : ∀ k, d = some k → k < C.n := fun k hk => by
      simp only [chkIOp, Bool.and_eq_true, beq_iff_eq] at hc'
      have := hc'.1.1.2
      subst hk
      simpa using this
    have hwant : Region.wanted o (yielded ops a.tmps) = true := by simp [Region.wanted, hno]
    unfold wpList
    rw [if_pos hwant]
    left
    rcases hw with hw | ⟨f', hf, hw⟩
    · have hop : chkOp P o.op (.call f as0) = true := by simp only [chkIOp, Bool.and_eq_true] at hc'; exact hc'.2
      refine op_sound (u := u) h hop hw trivial (fun av ws ι' S' w' v hk hR hv => ?_)
      rw [wpList]
      rw [hd]
      exact hq _ _ _ _ _ _ hk (hR.put (d := d) hv hlt)
    · have hop : chkOp P o.op (.call f as0) = true := by simp only [chkIOp, Bool.and_eq_true] at hc'; exact hc'.2
      unfold chkOp at hop
      simp only at hop
      split at hop
      case h_2 => cases hop
      rename_i c e
      split at hop
      case h_2 => cases hop
      rename_i fo e2
      simp only [Bool.and_eq_true] at hop
      obtain ⟨cl, ca, ct⟩ := c
      simp only at e2 hop
      subst e2
      exact wp_callp h e hop.1 hf hop.2 hw (fun t k n H' w' hF hR => hp t k n _ _ σ H' a w' hF hR)
  | o :: l, i :: l', ι, S, σ, H, a, w, K, F, hc, h, hw, hq, hp => by
    have hc' : (chkIOp P C.n ops o i && chkOpsC P C.n ops l l' ⟨d, u, none, .call f as0⟩) = true := by
      cases l with
      | nil => exact hc
      | cons => exact hc
    simp only [Bool.and_eq_true] at hc'
    have hst := step_sound (Q := Q) h hc'.1 hw (N := wpList P ops Q l) (fun av ws ι' S' w' v hk hR hv => by
      have hi := hc'.1
      simp only [chkIOp, Bool.and_eq_true, beq_iff_eq] at hi
      have hd : o.dst = i.d := hi.1.1.1
      refine opsC_sound l l' hc'.2 (hR.put (d := o.dst) hv (fun k hk1 => ?_)) (by rw [hd]; exact hk) hq hp
      have := hi.1.1.2
      rw [hd] at hk1
      rw [hk1] at this
      simpa using this)
    unfold wpList
    by_cases hwant : Region.wanted o (yielded ops a.tmps) = true
    · rw [if_pos hwant]; exact .inl (hst.1 hwant)
    · rw [if_neg hwant]; exact hst.2 (by simpa using hwant)
  | [], [], _, _, _, _, _, _, _, _, hc, _, _, _, _ => by cases hc
  | [], _ :: _, _, _, _, _, _, _, _, _, hc, _, _, _, _ => by cases hc
  | _ :: _ :: _, [], _, _, _, _, _, _, _, _, hc, _, _, _, _ => by cases hc
end
inductive KM where
  | plain
  | own (esz id : Nat)
structure Norm where
  slots : List (Nat × KM)
  objs : List (Nat × List KM)
def keepW (obs : List (Nat × List KM)) (H : LH) (v : AV) (md : KM) (K : AV → List (Nat × Option Nat) → LH → LH → Prop) : Prop :=
  match md with
  | .plain =>
    match v with
    | .c x => K (.c x) [] [] H
    | .ref i off => (∃ ms, (i, ms) ∈ obs) ∧ K (.ref i off) [] [] H
    | _ => False
  | .own esz id =>
    match v with
    | .c .nilsl => (960000 ≤ id ∧ id < argBase) ∧ K (.osl id 0 0) [(id, none)] [(id, .row esz [])] H
    | .osl i off len =>
      match LH.get H i with
      | some (.row e xs) => ((960000 ≤ id ∧ id < argBase ∨ id = i) ∧ off = 0 ∧ len = xs.length ∧ e = esz) ∧ K (.osl id 0 xs.length) [(id, some i)] [(id, .row esz xs)] (LH.set H i .dead)
      | _ => False
    | _ => False
def keepCellsW (H : LH) : List KM → List AV → (List AV → List (Nat × Option Nat) → LH → LH → Prop) → Prop
  | [], [], K => K [] [] [] H
  | md :: ms, v :: cs, K => keepW [] H v md fun v' m n H' => keepCellsW H' ms cs fun l m' n' H'' => K (v' :: l) (m ++ m') (n ++ n') H''
  | _, _, _ => False
def keepObjsW (H : LH) : List (Nat × List KM) → (List (Nat × Option Nat) → LH → LH → Prop) → Prop
  | [], K => K [] [] H
  | (i, ms) :: l, K =>
    match LH.get H i with
    | some (.obj cs) => keepCellsW (LH.set H i .dead) ms cs fun cs' m n H' => keepObjsW H' l fun m' n' H'' => K ((i, some i) :: m ++ m') ((i, .obj cs') :: n ++ n') H''
    | _ => False
def keepSlotsW (obs : List (Nat × List KM)) (σ : Slots) (H : LH) : List (Nat × KM) → (Slots → List (Nat × Option Nat) → LH → LH → Prop) → Prop
  | [], K => K [] [] [] H
  | (t, md) :: l, K => keepW obs H (Slots.get σ t) md fun v m n H' => keepSlotsW obs σ H' l fun σ' m' n' H'' => K ((t, v) :: σ') (m ++ m') (n ++ n') H''
def normW (N : Norm) (σ : Slots) (H : LH) (K : Slots → LH → Prop) : Prop :=
  keepSlotsW N.objs σ H N.slots fun σ' m n H' => keepObjsW H' N.objs fun m' n' _ => (((m ++ m').map (·.1)).Nodup ∧ ((n ++ n').map (·.1)).Nodup) ∧ K σ' (n ++ n')
structure Lend0 (H H' : LH) (m : List (Nat × Option Nat)) : Prop where
  moved : ∀ k i, (k, some i) ∈ m → isOwn (LH.get H i) ∧ LH.get H' i = some .dead
  inj : ∀ k k' i, (k, some i) ∈ m → (k', some i) ∈ m → k = k'
  other : ∀ i, LH.get H' i = LH.get H i ∨ ((∃ k, (k, some i) ∈ m) ∧ LH.get H' i = some .dead)
theorem Lend.zero {H H' : LH} {m : List (Nat × Option Nat)} {lo hi : Nat} (h : Lend H H' m lo hi) : Lend0 H H' m := ⟨h.moved, h.inj, h.other⟩
theorem Lend0.back {H H' : LH} {m : List (Nat × Option Nat)} {i : Nat} {o : LObj} (h : Lend0 H H' m) (hg : LH.get H' i = some o) (hd : o ≠ .dead) : LH.get H i = some o := by
  rcases h.other i with e | ⟨_, e⟩
  · rw [← e]; exact hg
  · rw [e] at hg; cases hg; exact absurd rfl hd
theorem Lend0.append {H H1 H2 : LH} {m m' : List (Nat × Option Nat)} (h : Lend0 H H1 m) (h' : Lend0 H1 H2 m') : Lend0 H H2 (m ++ m') := by
  have ownBack : ∀ i, isOwn (LH.get H1 i) → isOwn (LH.get H i) := fun i ho => by
    cases hg : LH.get H1 i with
    | none => rw [hg] at ho; exact ho.elim
    | some o =>
      rw [hg] at ho
      rw [h.back hg (by intro e; subst e; exact ho)]
      exact ho
  refine ⟨fun k i hp => ?_, fun k k' i hp hq => ?_, fun i => ?_⟩
  · rcases List.mem_append.1 hp with hp | hp
    · refine ⟨(h.moved k i hp).1, ?_⟩
      rcases h'.other i with e | ⟨_, e⟩
      · rw [e]; exact (h.moved k i hp).2
      · exact e
    · exact ⟨ownBack i (h'.moved k i hp).1, (h'.moved k i hp).2⟩
  · rcases List.mem_append.1 hp with hp | hp <;> rcases List.mem_append.1 hq with hq | hq
    · exact h.inj k k' i hp hq
    · have a := (h.moved k i hp).2
      have b := (h'.moved k' i hq).1
      rw [a] at b; exact b.elim
    · have a := (h.moved k' i hq).2
      have b := (h'.moved k i hp).1
      rw [a] at b; exact b.elim
    · exact h'.inj k k' i hp hq
  · rcases h'.other i with e | ⟨⟨k, hk⟩, e⟩
    · rcases h.other i with e2 | ⟨⟨k, hk⟩, e2⟩
      · exact .inl (e.trans e2)
      · exact .inr ⟨⟨k, List.mem_append_left _ hk⟩, e.trans e2⟩
    · exact .inr ⟨⟨k, List.mem_append_right _ hk⟩, e⟩
theorem Lend0.lend {H H' : LH} {m : List (Nat × Option Nat)} (h : Lend0 H H' m) (hn : (m.map (·.1)).Nodup) : ∃ hi, Lend H H' m 0 hi := by
  have hb : ∃ hi, ∀ p ∈ m, p.1 < hi := by
    clear h hn
    induction m with
    | nil => exact ⟨0, fun p hp => by cases hp⟩
    | cons x m ih =>
      obtain ⟨hi, hx⟩ := ih
      refine ⟨max hi (x.1 + 1), fun p hp => ?_⟩
      rcases List.mem_cons.1 hp with rfl | hp
      · omega
      · have := hx p hp; omega
  obtain ⟨hi, hb⟩ := hb
  refine ⟨hi, fun p hp => ⟨Nat.zero_le _, hb p hp⟩, ?_, h.moved, h.inj, h.other⟩
  clear h hb
  induction m with
  | nil => intro p hp; cases hp
  | cons x m ih =>
    simp only [List.map_cons, List.nodup_cons] at hn
    intro p hp q hq e
    rcases List.mem_cons.1 hp with rfl | hp1 <;> rcases List.mem_cons.1 hq with rfl | hq1
    · rfl
    · exact absurd (List.mem_map.2 ⟨q, hq1, e.symm⟩) hn.1
    · exact absurd (List.mem_map.2 ⟨p, hp1, e⟩) hn.1
    · exact ih hn.2 p hp1 q hq1 e
def KR (obs : List (Nat × List KM)) (H : LH) (m : List (Nat × Option Nat)) (n : LH) (v v0 : AV) : Prop :=
  (∃ x, v = .c x ∧ v0 = .c x) ∨ (∃ i off ms, v = .ref i off ∧ v0 = .ref i off ∧ (i, ms) ∈ obs) ∨
  (∃ key e xs, v = .osl key 0 xs.length ∧ (key, LObj.row e xs) ∈ n ∧ ((xs = [] ∧ v0 = .c .nilsl ∧ (key, none) ∈ m) ∨ ∃ i', v0 = .osl i' 0 xs.length ∧ (key, some i') ∈ m ∧ LH.get H i' = some (.row e xs)))
def NR (H : LH) (m : List (Nat × Option Nat)) (n : LH) : Prop :=
  ∀ k o, (k, o) ∈ n → (960000 ≤ k ∧ k < argBase ∨ ∃ i, (k, some i) ∈ m ∧ k = i) ∧ ((∃ e xs, o = .row e xs ∧ ((xs = [] ∧ (k, none) ∈ m) ∨ ∃ i, (k, some i) ∈ m ∧ LH.get H i = some (.row e xs))) ∨
    (∃ cs cs2, o = .obj cs ∧ (k, some k) ∈ m ∧ LH.get H k = some (.obj cs2) ∧ cs.length = cs2.length))
theorem KR.up {obs : List (Nat × List KM)} {H H1 : LH} {m m' : List (Nat × Option Nat)} {n n' : LH} {v v0 : AV} (h : KR obs H m n v v0) : KR obs H (m ++ m') (n ++ n') v v0 := by
  rcases h with h | h | ⟨key, e, xs, h1, h2, h3⟩
  · exact .inl h
  · exact .inr (.inl h)
  · refine .inr (.inr ⟨key, e, xs, h1, List.mem_append_left _ h2, ?_⟩)
    rcases h3 with ⟨a, b, c⟩ | ⟨i', a, b, c⟩
    · exact .inl ⟨a, b, List.mem_append_left _ c⟩
    · exact .inr ⟨i', a, List.mem_append_left _ b, c⟩
theorem KR.tail {obs : List (Nat × List KM)} {H H1 : LH} {m m' : List (Nat × Option Nat)} {n n' : LH} {v v0 : AV} (hl : Lend0 H H1 m) (h : KR obs H1 m' n' v v0) : KR obs H (m ++ m') (n ++ n') v v0 := by
  rcases h with h | h | ⟨key, e, xs, h1, h2, h3⟩
  · exact .inl h
  · exact .inr (.inl h)
  · refine .inr (.inr ⟨key, e, xs, h1, List.mem_append_right _ h2, ?_⟩)
    rcases h3 with ⟨a, b, c⟩ | ⟨i', a, b, c⟩
    · exact .inl ⟨a, b, List.mem_append_right _ c⟩
    · exact .inr ⟨i', a, List.mem_append_right _ b, hl.back c (by simp)⟩
theorem NR.append {H H1 : LH} {m m' : List (Nat × Option Nat)} {n n' : LH} (hl : Lend0 H H1 m) (h : NR H m n) (h' : NR H1 m' n') : NR H (m ++ m') (n ++ n') := by
  intro k o hk
  rcases List.mem_append.1 hk with hk | hk
  · obtain ⟨h1, h2⟩ := h k o hk
    refine ⟨h1.imp id (fun ⟨i, a, b⟩ => ⟨i, List.mem_append_left _ a, b⟩), ?_⟩
    rcases h2 with ⟨e, xs, a, b⟩ | ⟨cs, cs2, a, b, c, d⟩
    · refine .inl ⟨e, xs, a, ?_⟩
      rcases b with ⟨b, c⟩ | ⟨i, b, c⟩
      · exact .inl ⟨b, List.mem_append_left _ c⟩
      · exact .inr ⟨i, List.mem_append_left _ b, c⟩
    · exact .inr ⟨cs, cs2, a, List.mem_append_left _ b, c, d⟩
  · obtain ⟨h1, h2⟩ := h' k o hk
    refine ⟨h1.imp id (fun ⟨i, a, b⟩ => ⟨i, List.mem_append_right _ a, b⟩), ?_⟩
    rcases h2 with ⟨e, xs, a, b⟩ | ⟨cs, cs2, a, b, c, d⟩
    · refine .inl ⟨e, xs, a, ?_⟩
      rcases b with ⟨b, c⟩ | ⟨i, b, c⟩
      · exact .inl ⟨b, List.mem_append_right _ c⟩
      · exact .inr ⟨i, List.mem_append_right _ b, hl.back c (by simp)⟩
    · exact .inr ⟨cs, cs2, a, List.mem_append_right _ b, hl.back c (by simp), d⟩
theorem Lend0.refl (H : LH) : Lend0 H H [] := ⟨fun k i h => (by cases h), fun k k' i h => (by cases h), fun i => .inl rfl⟩
theorem keepW_spec {obs : List (Nat × List KM)} {H : LH} {v : AV} {md : KM} {K : AV → List (Nat × Option Nat) → LH → LH → Prop} (h : keepW obs H v md K) :
    ∃ v' m n H', K v' m n H' ∧ Lend0 H H' m ∧ KR obs H m n v' v ∧ NR H m n ∧ (∀ k o, (k, o) ∈ n → ∃ e xs, o = .row e xs) := by
  cases md with
  | plain =>
    simp only [keepW] at h
    split at h
    · exact ⟨_, _, _, _, h, Lend0.refl _, .inl ⟨_, rfl, rfl⟩, fun k o hk => (by cases hk), fun k o hk => (by cases hk)⟩
    · obtain ⟨⟨ms, hm⟩, h⟩ := h
      exact ⟨_, _, _, _, h, Lend0.refl _, .inr (.inl ⟨_, _, ms, rfl, rfl, hm⟩), fun k o hk => (by cases hk), fun k o hk => (by cases hk)⟩
    · exact h.elim
  | own esz id =>
    simp only [keepW] at h
    split at h
    · obtain ⟨hid, h⟩ := h
      refine ⟨_, _, _, _, h, (Lend.nil H id).zero, .inr (.inr ⟨id, esz, [], rfl, List.mem_cons_self, .inl ⟨rfl, rfl, List.mem_cons_self⟩⟩), fun k o hk => ?_, fun k o hk => ?_⟩
      · simp at hk; obtain ⟨rfl, rfl⟩ := hk
        exact ⟨.inl hid, .inl ⟨_, _, rfl, .inl ⟨rfl, List.mem_cons_self⟩⟩⟩
      · simp at hk; exact ⟨_, _, hk.2⟩
    · rename_i i off len
      split at h
      · rename_i e xs hget
        obtain ⟨⟨hid, rfl, rfl, rfl⟩, h⟩ := h
        refine ⟨_, _, _, _, h, (Lend.one H id (by rw [hget]; trivial)).zero, .inr (.inr ⟨id, e, xs, rfl, List.mem_cons_self, .inr ⟨i, rfl, List.mem_cons_self, hget⟩⟩), fun k o hk => ?_, fun k o hk => ?_⟩
        · simp at hk; obtain ⟨rfl, rfl⟩ := hk
          exact ⟨hid.imp (fun h => h) (fun e => ⟨i, List.mem_cons_self, e⟩), .inl ⟨_, _, rfl, .inr ⟨i, List.mem_cons_self, hget⟩⟩⟩
        · simp at hk; exact ⟨_, _, hk.2⟩
      · exact h.elim
    · exact h.elim
theorem keepCellsW_spec : ∀ (ms : List KM) (cs : List AV) (H : LH) (K : List AV → List (Nat × Option Nat) → LH → LH → Prop), keepCellsW H ms cs K →
    ∃ l m n H', K l m n H' ∧ Lend0 H H' m ∧ l.length = cs.length ∧ (∀ q, q < cs.length → KR [] H m n (l.getD q (.c .undef)) (cs.getD q (.c .undef))) ∧ NR H m n ∧ (∀ k o, (k, o) ∈ n → ∃ e xs, o = .row e xs)
  | [], [], H, K, h => ⟨[], [], [], H, h, Lend0.refl _, rfl, fun q hq => by simp at hq, fun k o hk => (by cases hk), fun k o hk => (by cases hk)⟩
  | md :: ms, v :: cs, H, K, h => by
    obtain ⟨v', m, n, H1, h, hl, hk, hn, hr⟩ := keepW_spec h
    obtain ⟨l, m', n', H2, h, hl', hlen, hk', hn', hr'⟩ := keepCellsW_spec ms cs H1 _ h
    refine ⟨_, _, _, _, h, hl.append hl', by simp [hlen], fun q hq => ?_, NR.append hl hn hn', fun k o ho => ?_⟩
    · cases q with
      | zero => exact hk.up (H1 := H1)
      | succ q => exact (hk' q (by simpa using hq)).tail hl
    · rcases List.mem_append.1 ho with ho | ho
      · exact hr k o ho
      · exact hr' k o ho
  | [], _ :: _, _, _, h => h.elim
  | _ :: _, [], _, _, h => h.elim
def ObR (H : LH) (m : List (Nat × Option Nat)) (n : LH) : Prop :=
  ∀ k cs, (k, LObj.obj cs) ∈ n → ∃ cs2, LH.get H k = some (.obj cs2) ∧ cs.length = cs2.length ∧ (k, some k) ∈ m ∧ ∀ q, q < cs.length → KR [] H m n (cs.getD q (.c .undef)) (cs2.getD q (.c .undef))
theorem keepObjsW_spec : ∀ (l : List (Nat × List KM)) (H : LH) (K : List (Nat × Option Nat) → LH → LH → Prop), keepObjsW H l K →
    ∃ m n H', K m n H' ∧ Lend0 H H' m ∧ NR H m n ∧ ObR H m n ∧ (∀ i ms, (i, ms) ∈ l → ∃ cs, (i, LObj.obj cs) ∈ n)
  | [], H, K, h => ⟨[], [], H, h, Lend0.refl _, fun k o hk => (by cases hk), fun k o hk => (by cases hk), fun i ms hi => (by cases hi)⟩
  | (i, ms) :: l, H, K, h => by
    simp only [keepObjsW] at h
    split at h
    · rename_i cs hget
      obtain ⟨cs', m, n, H1, h, hl, hlen, hk, hn, hr⟩ := keepCellsW_spec ms cs _ _ h
      obtain ⟨m', n', H2, h, hl', hn', hob, hall⟩ := keepObjsW_spec l H1 _ h
      have h0 : Lend0 H (LH.set H i .dead) [(i, some i)] := (Lend.one H i (by rw [hget]; trivial)).zero
      have h01 : Lend0 H H1 ((i, some i) :: m) := h0.append hl
      refine ⟨_, _, _, h, h01.append hl', ?_, ?_, fun j ms' hj => ?_⟩
      · refine NR.append h01 (fun k o ho => ?_) hn'
        rcases List.mem_cons.1 ho with ho | ho
        · cases ho
          exact ⟨.inr ⟨i, List.mem_cons_self, rfl⟩, .inr ⟨cs', cs, rfl, List.mem_cons_self, hget, hlen⟩⟩
        · obtain ⟨a, b⟩ := hn k o ho
          refine ⟨a.imp id (fun ⟨j, c, d⟩ => ⟨j, List.mem_cons_of_mem _ c, d⟩), ?_⟩
          rcases b with ⟨e, xs, c, d⟩ | ⟨c1, c2, c3, c4, c5, c6⟩
          · refine .inl ⟨e, xs, c, ?_⟩
            rcases d with ⟨d1, d2⟩ | ⟨j, d1, d2⟩
            · exact .inl ⟨d1, List.mem_cons_of_mem _ d2⟩
            · exact .inr ⟨j, List.mem_cons_of_mem _ d1, h0.back d2 (by simp)⟩
          · exact .inr ⟨c1, c2, c3, List.mem_cons_of_mem _ c4, h0.back c5 (by simp), c6⟩
      · intro k c hkc
        rcases List.mem_append.1 (show (k, LObj.obj c) ∈ ((i, .obj cs') :: n) ++ n' from hkc) with ho | ho
        · rcases List.mem_cons.1 ho with ho | ho
          · cases ho
            refine ⟨cs, hget, hlen, List.mem_append_left _ List.mem_cons_self, fun q hq => ?_⟩
            have h1 := (hk q (by omega)).tail (n := [(i, .obj cs')]) h0
            exact h1.up (H1 := H1)
          · obtain ⟨e, xs, hx⟩ := hr k _ ho
            cases hx
        · obtain ⟨cs2, a, b, c', d⟩ := hob k c ho
          exact ⟨cs2, h01.back a (by simp), b, List.mem_append_right _ c', fun q hq => (d q hq).tail h01⟩
      · rcases List.mem_cons.1 hj with hj | hj
        · cases hj; exact ⟨cs', List.mem_cons_self⟩
        · obtain ⟨c, hc⟩ := hall j ms' hj
          exact ⟨c, List.mem_append_right _ hc⟩
    · exact h.elim
theorem keepSlotsW_spec {obs : List (Nat × List KM)} {σ : Slots} : ∀ (l : List (Nat × KM)) (H : LH) (K : Slots → List (Nat × Option Nat) → LH → LH → Prop), keepSlotsW obs σ H l K →
    ∃ σ' m n H', K σ' m n H' ∧ Lend0 H H' m ∧ NR H m n ∧ (∀ k o, (k, o) ∈ n → ∃ e xs, o = .row e xs) ∧ ∀ t, Slots.get σ' t = .c .undef ∨ KR obs H m n (Slots.get σ' t) (Slots.get σ t)
  | [], H, K, h => ⟨[], [], [], H, h, Lend0.refl _, fun k o hk => (by cases hk), fun k o hk => (by cases hk), fun t => .inl rfl⟩
  | (t, md) :: l, H, K, h => by
    obtain ⟨v', m, n, H1, h, hl, hk, hn, hr⟩ := keepW_spec h
    obtain ⟨σ', m', n', H2, h, hl', hn', hr', hs⟩ := keepSlotsW_spec l H1 _ h
    refine ⟨_, _, _, _, h, hl.append hl', NR.append hl hn hn', fun k o ho => ?_, fun t' => ?_⟩
    · rcases List.mem_append.1 ho with ho | ho
      · exact hr k o ho
      · exact hr' k o ho
    · simp only [Slots.get]
      by_cases e : t = t'
      · subst e; rw [if_pos rfl]; exact .inr (hk.up (H1 := H1))
      · rw [if_neg e]
        rcases hs t' with h1 | h1
        · exact .inl h1
        · exact .inr (h1.tail hl)
theorem get_of_mem {l : LH} {k : Nat} {o : LObj} (hu : ∀ p ∈ l, ∀ q ∈ l, p.1 = q.1 → p = q) (h : (k, o) ∈ l) : LH.get l k = some o := by
  induction l with
  | nil => cases h
  | cons x l ih =>
    obtain ⟨i, p⟩ := x
    simp only [LH.get]
    split
    · rename_i e
      have := hu (k, o) h (i, p) List.mem_cons_self e.symm
      cases this; rfl
    · rename_i e
      refine ih (fun p hp q hq => hu p (List.mem_cons_of_mem _ hp) q (List.mem_cons_of_mem _ hq)) ?_
      rcases List.mem_cons.1 h with h | h
      · cases h; exact absurd rfl e
      · exact h
section
variable {P : Program} {C : Ctx} {ι : Nat → Loc} {S : Nat → Nat → Prop} {σ : Slots} {H : LH} {a : Act} {w : World}
theorem norm_sound (h : R C ι S σ H a w) {N : Norm} {K : Slots → LH → Prop} (hw : normW N σ H K) : ∃ σ' H' ι', K σ' H' ∧ R C ι' S σ' H' a w := by
  obtain ⟨σ', m, n, H1, hw, hl, hn, hrow, hs⟩ := keepSlotsW_spec _ _ _ hw
  obtain ⟨m', n', H2, ⟨⟨hnd, hnd2⟩, hK⟩, hl', hn', hob, hall⟩ := keepObjsW_spec _ _ _ hw
  have hL0 := hl.append hl'
  obtain ⟨hi, hL⟩ := hL0.lend hnd
  have hN := NR.append hl hn hn'
  have huniq : ∀ p ∈ n ++ n', ∀ q ∈ n ++ n', p.1 = q.1 → p = q := by
    clear hK hs
    generalize n ++ n' = l at hnd2
    induction l with
    | nil => intro p hp; cases hp
    | cons x l ih =>
      simp only [List.map_cons, List.nodup_cons] at hnd2
      intro p hp q hq e
      rcases List.mem_cons.1 hp with rfl | hp1 <;> rcases List.mem_cons.1 hq with rfl | hq1
      · rfl
      · exact absurd (List.mem_map.2 ⟨q, hq1, e.symm⟩) hnd2.1
      · exact absurd (List.mem_map.2 ⟨p, hp1, e⟩) hnd2.1
      · exact ih hnd2.2 p hp1 q hq1 e
  have hobj : ∀ k cs, LH.get (n ++ n') k = some (.obj cs) → ∃ cs2, LH.get H k = some (.obj cs2) ∧ cs.length = cs2.length ∧ (k, some k) ∈ m ++ m' ∧ ∀ q, q < cs.length → KR [] H (m ++ m') (n ++ n') (cs.getD q (.c .undef)) (cs2.getD q (.c .undef)) := fun k cs hg => by
    rcases List.mem_append.1 (mem_of_get hg) with hm | hm
    · obtain ⟨e, xs, hx⟩ := hrow _ _ hm
      cases hx
    · obtain ⟨cs2, a1, a2, a3, a4⟩ := hob k cs hm
      exact ⟨cs2, hl.back a1 (by simp), a2, List.mem_append_right _ a3, fun q hq => (a4 q hq).tail hl⟩
  have hOB : OB H (m ++ m') (n ++ n') := by
    refine ⟨fun k e xs hg => ?_, fun k cs hg => ?_, fun k e xs hg => ?_, fun k hg => ?_⟩
    · obtain ⟨_, h2⟩ := hN k _ (mem_of_get hg)
      rcases h2 with ⟨e', xs', h3, h4⟩ | ⟨cs, cs2, h3, _⟩
      · cases h3; exact h4
      · cases h3
    · obtain ⟨cs2, a1, a2, a3, a4⟩ := hobj k cs hg
      refine ⟨k, cs2, a3, a1, a2, fun q hq => ?_⟩
      rcases a4 q hq with ⟨x, e1, e2⟩ | ⟨i, off, ms, _, _, hmem⟩ | ⟨key, e, xs, e1, hmem, hr⟩
      · exact .inl ⟨x, e1, e2⟩
      · cases hmem
      · exact .inr ⟨key, e, xs, e1, get_of_mem huniq hmem, hr⟩
    · obtain ⟨_, h2⟩ := hN k _ (mem_of_get hg)
      rcases h2 with ⟨e', xs', h3, _⟩ | ⟨cs, cs2, h3, _⟩ <;> cases h3
    · obtain ⟨_, h2⟩ := hN k _ (mem_of_get hg)
      rcases h2 with ⟨e', xs', h3, _⟩ | ⟨cs, cs2, h3, _⟩ <;> cases h3
  have hSv : Sv ι S w [] = S := funext fun b => funext fun o => propext ⟨fun h => h.elim id (fun ⟨i, hi, _⟩ => (by cases hi)), .inl⟩
  have hHR := lend_HR (V := []) h.hr hL hOB (fun i hi => by cases hi)
  rw [hSv] at hHR
  refine ⟨σ', n ++ n', lendL ι (m ++ m'), hK, ⟨h.fr, hHR, fun t => ?_, fun id ho => ?_, h.sup, h.sub, fun id ob hg hoo hge => ?_, h.size, h.defs⟩⟩
  · rcases hs t with e | hk
    · rw [e]; exact AVR.undef _
    · have hsl := h.sl t
      rcases hk.up (m' := m') (n' := n') (H1 := H1) with ⟨x, e1, e2⟩ | ⟨i, off, ms, e1, e2, hmem⟩ | ⟨key, e, xs, e1, hmem, hr⟩
      · rw [e1]; rw [e2] at hsl
        exact .c _ _ (avr_c hsl)
      · rw [e1]; rw [e2] at hsl
        obtain ⟨cs, hc⟩ := hall i ms hmem
        have hg := get_of_mem huniq (List.mem_append_right n hc)
        obtain ⟨cs2, a1, a2, a3, _⟩ := hobj i cs hg
        obtain ⟨b1, b2⟩ := refOK_obj (avr_ref hsl) a1
        refine .ref _ _ _ ?_
        unfold RefOK
        rw [hg, lendL_some hL.uniq a3]
        exact ⟨by omega, b2⟩
      · rw [e1]
        refine .osl _ _ _ _ ?_
        unfold OslOK
        rw [get_of_mem huniq hmem]
        refine ⟨by omega, ?_⟩
        rcases hr with ⟨rfl, e2, hm⟩ | ⟨i', e2, hm, hg⟩
        · rw [e2] at hsl
          rw [avr_nilsl hsl, lendL_none hL.uniq hm]
          unfold SliceAt
          rw [if_pos rfl]
          exact ⟨rfl, rfl, _, rfl⟩
        · rw [e2] at hsl
          rw [lendL_some hL.uniq hm]
          exact (oslOK_row (avr_osl hsl) (.inl hg)).2
  · obtain ⟨i, h1, h2, h3⟩ := lend_owned hL hOB ho
    rw [h3]; exact h.own i h2
  · obtain ⟨hk1, hk2⟩ := hN id ob (mem_of_get hg)
    rcases hk2 with ⟨e, xs, rfl, h4⟩ | ⟨cs, cs2, rfl, a3, a1, _⟩
    · rcases hk1 with hk1 | ⟨i, h5, rfl⟩
      · omega
      · rw [lendL_some hL.uniq h5]
        rcases h4 with ⟨_, h6⟩ | ⟨i', h6, h7⟩
        · have := hL.uniq _ h5 _ h6 rfl
          simp at this
        · have := hL.uniq _ h5 _ h6 rfl
          simp at this
          subst this
          exact h.loc id _ h7 trivial hge
    · rw [lendL_some hL.uniq a3]
      exact h.loc id _ a1 trivial hge
end
def Opd.slots : Opd → List Nat
  | .t n => [n]
  | .c _ => []
def optS : Option Opd → List Nat
  | none => []
  | some x => x.slots
def Ins.reads : Ins → List Nat
  | .mv x => x.slots
  | .pick c x y => c.slots ++ (x.slots ++ y.slots)
  | .bin _ x y => x.slots ++ y.slots
  | .not x => x.slots
  | .cpl x => x.slots
  | .conv _ x => x.slots
  | .b2s x => x.slots
  | .s2b x => x.slots
  | .len _ x => x.slots
  | .mn x y => x.slots ++ y.slots
  | .mx x y => x.slots ++ y.slots
  | .ext x _ => x.slots
  | .sidx x i => x.slots ++ i.slots
  | .aidx _ x i => x.slots ++ i.slots
  | .fa x _ => x.slots
  | .ia x i _ => x.slots ++ i.slots
  | .ld x _ => x.slots
  | .st x v _ => x.slots ++ v.slots
  | .nck x => x.slots
  | .alloc _ => []
  | .box x => x.slots
  | .bld _ ps => ps.flatMap fun p => p.2.slots
  | .bsl _ ps => ps.flatMap fun p => p.slots
  | .slc x lo hi m _ => x.slots ++ (optS lo ++ (optS hi ++ optS m))
  | .ssl x lo hi => x.slots ++ (optS lo ++ optS hi)
  | .app x y _ _ _ => x.slots ++ y.slots
  | .call f as0 => f.slots ++ as0.flatMap fun p => p.1.slots
  | .isnil x _ => x.slots
  | .beq x y => x.slots ++ y.slots
  | .bne x y => x.slots ++ y.slots
  | .mks _ _ => []
def IOp.reads (i : IOp) : List Nat :=
  (match i.g with
   | none => []
   | some (t, _) => [t]) ++ i.io.reads
def Ins.quiet : Ins → Bool
  | .s2b _ | .st _ _ _ | .alloc _ | .box _ | .bsl _ _ | .app _ _ _ _ _ | .call _ _ | .mks _ _ => false
  | _ => true
section
variable {P : Program} {σ σ' : Slots} {H : LH} {g : Prop} {u : Nat}
theorem val_congr {x : Opd} (h : ∀ t ∈ x.slots, Slots.get σ t = Slots.get σ' t) : val σ x = val σ' x := by
  cases x with
  | t n => exact h n (by simp [Opd.slots])
  | c v => rfl
theorem optI_congr {x : Option Opd} {K : Option Int → Prop} (h : ∀ t ∈ optS x, Slots.get σ t = Slots.get σ' t) : optI g σ x K = optI g σ' x K := by
  cases x with
  | none => rfl
  | some x => simp only [optI, val_congr (x := x) h]
theorem bldW_congr : ∀ (ps : List (Nat × Opd)) (z : List CV) (K : List CV → Prop), (∀ t ∈ ps.flatMap (fun p => p.2.slots), Slots.get σ t = Slots.get σ' t) → bldW σ g z ps K = bldW σ' g z ps K
  | [], z, K, h => rfl
  | (i, x) :: ps, z, K, h => by
    have hx : val σ x = val σ' x := val_congr fun t ht => h t (by simp [ht])
    simp only [bldW, hx]
    congr 1
    funext v
    split
    · rw [bldW_congr ps _ K fun t ht => h t (by simp only [List.flatMap_cons, List.mem_append]; exact .inr ht)]
    · rfl
theorem opW_congr {io : Ins} {K : AV → List (Nat × LObj) → Prop} (h : ∀ t ∈ io.reads, Slots.get σ t = Slots.get σ' t) : opW P g σ H u io K = opW P g σ' H u io K := by
  have key : ∀ x : Opd, (∀ t ∈ x.slots, t ∈ io.reads) → val σ x = val σ' x := fun x hx => val_congr fun t ht => h t (hx t ht)
  have keyo : ∀ (x : Option Opd) (K : Option Int → Prop), (∀ t ∈ optS x, t ∈ io.reads) → optI g σ x K = optI g σ' x K := fun x K hx => optI_congr fun t ht => h t (hx t ht)
  cases io with
  | bld z ps => simp only [opW]; exact bldW_congr ps z _ h
  | bsl e ps =>
    have : ps.map (val σ) = ps.map (val σ') := List.map_congr_left fun x hx => key x fun t ht => by simp only [Ins.reads, List.mem_flatMap]; exact ⟨x, hx, ht⟩
    simp only [opW, this]
  | call f as0 =>
    have hf : val σ f = val σ' f := key f fun t ht => by simp [Ins.reads, ht]
    have ha : (as0.map fun x => (val σ x.1, x.2)) = as0.map fun x => (val σ' x.1, x.2) :=
      List.map_congr_left fun x hx => by rw [key x.1 fun t ht => by simp only [Ins.reads, List.mem_append, List.mem_flatMap]; exact .inr ⟨x, hx, ht⟩]
    simp only [opW, callW, hf, ha]
  | slc x lo hi mx e =>
    have h1 := key x fun t ht => by simp [Ins.reads, ht]
    have h2 := fun K => keyo lo K fun t ht => by simp [Ins.reads, ht]
    have h3 := fun K => keyo hi K fun t ht => by simp [Ins.reads, ht]
    have h4 := fun K => keyo mx K fun t ht => by simp [Ins.reads, ht]
    simp only [opW, h1, h2, h3, h4]
  | ssl x lo hi =>
    have h1 := key x fun t ht => by simp [Ins.reads, ht]
    have h2 := fun K => keyo lo K fun t ht => by simp [Ins.reads, ht]
    have h3 := fun K => keyo hi K fun t ht => by simp [Ins.reads, ht]
    simp only [opW, h1, h2, h3]
  | alloc z => rfl
  | mks n z => rfl
  | pick a b c =>
    have h1 := key a fun t ht => by simp [Ins.reads, ht]
    have h2 := key b fun t ht => by simp [Ins.reads, ht]
    have h3 := key c fun t ht => by simp [Ins.reads, ht]
    simp only [opW, h1, h2, h3]
  | bin _ x y | beq x y | bne x y | mn x y | mx x y | sidx x y | aidx _ x y | ia x y _ | st x y _ | app x y _ _ _ =>
    have h1 := key x fun t ht => by simp [Ins.reads, ht]
    have h2 := key y fun t ht => by simp [Ins.reads, ht]
    simp only [opW, h1, h2]
  | mv x | not x | cpl x | conv _ x | b2s x | s2b x | len _ x | ext x _ | fa x _ | ld x _ | nck x | box x | isnil x _ =>
    have h1 := key x fun t ht => by simp [Ins.reads, ht]
    simp only [opW, h1]
theorem stepW_congr {i : IOp} {K : AV → List (Nat × LObj) → Prop} (h : ∀ t ∈ i.reads, Slots.get σ t = Slots.get σ' t) : stepW P σ H i K = stepW P σ' H i K := by
  unfold stepW
  have hr : ∀ t ∈ i.io.reads, Slots.get σ t = Slots.get σ' t := fun t ht => h t (by simp [IOp.reads, ht])
  cases hg : i.g with
  | none => exact opW_congr hr
  | some tw =>
    obtain ⟨t, want⟩ := tw
    have ht := h t (by simp [IOp.reads, hg])
    simp only [ht, opW_congr (P := P) (H := H) (σ := σ) (σ' := σ') hr]
theorem ex_ung {v : AV} {F : AV → Prop} (h : ungW g v F) : ∃ v', F v' ∧ ∀ F' : AV → Prop, F' v' → ungW g v F' := by
  unfold ungW at h ⊢
  split at h
  · exact ⟨_, h.2, fun F' hf => ⟨h.1, hf⟩⟩
  · rename_i hn
    exact ⟨_, h, fun F' hf => hf⟩
theorem ex_pick {t : Bool} {x y : AV} {F : AV → Prop} (h : pickW g t x y F) : ∃ v', F v' ∧ ∀ F' : AV → Prop, F' v' → pickW g t x y F' := by
  unfold pickW at h ⊢
  split at h
  · exact ⟨_, h, fun F' hf => hf⟩
  · exact ⟨_, h.2, fun F' hf => ⟨h.1, hf⟩⟩
  · exact ⟨_, h.2, fun F' hf => ⟨h.1, hf⟩⟩
  · exact ⟨_, h.2.2, fun F' hf => ⟨h.1, h.2.1, hf⟩⟩
  · exact ⟨_, h.2, fun F' hf => ⟨h.1, hf⟩⟩
  · exact ⟨_, h.2, fun F' hf => ⟨h.1, hf⟩⟩
  · exact ⟨_, h.2, fun F' hf => ⟨h.1, hf⟩⟩
  · exact ⟨_, h.2, fun F' hf => ⟨h.1, hf⟩⟩
  · exact h.elim
theorem ex_binI {op : BinOp} {k : IntKind} {x y : Int} {F : CV → Prop} (h : binI g op k x y F) : ∃ v', F v' ∧ ∀ F' : CV → Prop, F' v' → binI g op k x y F' := by
  cases op <;> simp only [binI] at h ⊢ <;> first | exact ⟨_, h, fun F' hf => hf⟩ | exact ⟨_, h.2, fun F' hf => ⟨h.1, hf⟩⟩ | exact h.elim
theorem ex_bin {op : BinOp} {x y : AV} {F : CV → Prop} (h : binW g op x y F) : ∃ v', F v' ∧ ∀ F' : CV → Prop, F' v' → binW g op x y F' := by
  obtain ⟨v1, h, f1⟩ := ex_ung h
  obtain ⟨v2, h, f2⟩ := ex_ung h
  have f : ∀ G : AV → AV → Prop, G v1 v2 → ungW g x fun x => ungW g y fun y => G x y := fun G hG => f1 _ (f2 _ hG)
  clear f1 f2
  unfold binW
  split at h
  · split at h
    · exact ⟨_, h.2, fun F' hf => f _ ⟨h.1, hf⟩⟩
    · exact ⟨_, h.2, fun F' hf => f _ ⟨h.1, hf⟩⟩
    · rename_i h1 h2
      obtain ⟨v', a, b⟩ := ex_binI h.2
      refine ⟨v', a, fun F' hf => f _ ?_⟩
      simp only
      exact ⟨h.1, b F' hf⟩
  · unfold binS at h
    split at h
    · exact ⟨_, h, fun F' hf => f _ hf⟩
    · exact ⟨_, h, fun F' hf => f _ hf⟩
    · exact h.elim
  · unfold binF at h
    split at h
    · exact ⟨_, h, fun F' hf => f _ hf⟩
    · exact ⟨_, h, fun F' hf => f _ hf⟩
    · exact h.elim
  · exact h.elim
theorem ex_len {b : Bool} {x : AV} {F : Nat → Prop} (h : lenW g H b x F) : ∃ v', F v' ∧ ∀ F' : Nat → Prop, F' v' → lenW g H b x F' := by
  obtain ⟨v1, h, f1⟩ := ex_ung h
  unfold lenW
  split at h
  · exact ⟨_, h, fun F' hf => f1 _ hf⟩
  · exact ⟨_, h, fun F' hf => f1 _ hf⟩
  · exact ⟨_, h, fun F' hf => f1 _ hf⟩
  · split at h
    · rename_i hg; exact ⟨_, h, fun F' hf => f1 _ (by simp only [hg]; exact hf)⟩
    · rename_i hg; exact ⟨_, h, fun F' hf => f1 _ (by simp only [hg]; exact hf)⟩
    · exact h.elim
  · exact h.elim
theorem ex_elems {b : Bool} {e : Nat} {x : AV} {F : List CV → Prop} (h : elemsW H b e x F) : ∃ v', F v' ∧ ∀ F' : List CV → Prop, F' v' → elemsW H b e x F' := by
  unfold elemsW at h ⊢
  split at h
  · exact ⟨_, h, fun F' hf => hf⟩
  · exact ⟨_, h.2, fun F' hf => ⟨h.1, hf⟩⟩
  · exact ⟨_, h.2, fun F' hf => ⟨h.1, hf⟩⟩
  · split at h
    · exact ⟨_, h.2, fun F' hf => ⟨h.1, hf⟩⟩
    · exact ⟨_, h.2, fun F' hf => ⟨h.1, hf⟩⟩
    · exact h.elim
  · exact h.elim
theorem ex_closed : ∀ {l : List AV} {F : List CV → Prop}, closedW l F → ∃ v', F v' ∧ ∀ F' : List CV → Prop, F' v' → closedW l F'
  | [], F, h => ⟨[], h, fun F' hf => hf⟩
  | .c v :: l, F, h => by
    obtain ⟨vs, a, b⟩ := ex_closed (l := l) (F := fun vs => F (v :: vs)) h
    exact ⟨v :: vs, a, fun F' hf => b (fun vs => F' (v :: vs)) hf⟩
  | .ref _ _ :: l, F, h => h.elim
  | .osl _ _ _ :: l, F, h => h.elim
  | .eptr _ _ _ :: l, F, h => h.elim
  | .vptr _ :: l, F, h => h.elim
  | .tup _ :: l, F, h => h.elim
  | .grd _ _ :: l, F, h => h.elim
theorem ex_ldRow {e : Nat} {x : CV} {f : Nat} {n : Option Nat} {F : AV → Prop} (h : ldRow g e x f n F) : ∃ v', F v' ∧ ∀ F' : AV → Prop, F' v' → ldRow g e x f n F' := by
  cases n with
  | none => exact ⟨_, h.2, fun F' hf => ⟨h.1, hf⟩⟩
  | some n => exact ⟨_, h.2, fun F' hf => ⟨h.1, hf⟩⟩
theorem ex_load {x : AV} {n : Option Nat} {F : AV → Prop} (h : loadW g H x n F) : ∃ v', F v' ∧ ∀ F' : AV → Prop, F' v' → loadW g H x n F' := by
  obtain ⟨v1, h, f1⟩ := ex_ung h
  unfold loadW
  split at h
  · split at h
    · rename_i hg
      cases n with
      | none => exact ⟨_, h.2, fun F' hf => f1 _ (by simp only [hg]; exact ⟨h.1, hf⟩)⟩
      | some n =>
        obtain ⟨vs, a, b⟩ := ex_closed h.2
        exact ⟨_, a, fun F' hf => f1 _ (by simp only [hg]; exact ⟨h.1, b _ hf⟩)⟩
    · exact h.elim
  · split at h
    · rename_i hg
      obtain ⟨v', a, b⟩ := ex_ldRow h
      exact ⟨_, a, fun F' hf => f1 _ (by simp only [hg]; exact b _ hf)⟩
    · rename_i hg
      obtain ⟨v', a, b⟩ := ex_ldRow h
      exact ⟨_, a, fun F' hf => f1 _ (by simp only [hg]; exact b _ hf)⟩
    · exact h.elim
  · cases n with
    | none => exact ⟨_, h.2, fun F' hf => f1 _ ⟨h.1, hf⟩⟩
    | some n => exact ⟨_, h.2, fun F' hf => f1 _ ⟨h.1, hf⟩⟩
  · exact h.elim
theorem ex_bld : ∀ {ps : List (Nat × Opd)} {z : List CV} {F : List CV → Prop}, bldW σ g z ps F → ∃ v', F v' ∧ ∀ F' : List CV → Prop, F' v' → bldW σ g z ps F'
  | [], z, F, h => ⟨_, h, fun F' hf => hf⟩
  | (i, x) :: ps, z, F, h => by
    obtain ⟨v1, h, f1⟩ := ex_ung h
    split at h
    · obtain ⟨v', a, b⟩ := ex_bld h.2
      exact ⟨_, a, fun F' hf => f1 _ ⟨h.1, b _ hf⟩⟩
    · exact h.elim
theorem ex_opt {x : Option Opd} {F : Option Int → Prop} (h : optI g σ x F) : ∃ v', F v' ∧ ∀ F' : Option Int → Prop, F' v' → optI g σ x F' := by
  cases x with
  | none => exact ⟨_, h, fun F' hf => hf⟩
  | some x =>
    obtain ⟨v1, h, f1⟩ := ex_ung h
    split at h
    · exact ⟨_, h, fun F' hf => f1 _ hf⟩
    · exact h.elim
theorem ex_op {io : Ins} {K : AV → List (Nat × LObj) → Prop} (hq : io.quiet = true) (h : opW P g σ H u io K) : ∃ v, K v [] ∧ ∀ K' : AV → List (Nat × LObj) → Prop, K' v [] → opW P g σ H u io K' := by
  cases io with
  | mv x => exact ⟨_, h, fun K' hk => hk⟩
  | pick c x y =>
    obtain ⟨v1, h, f1⟩ := ex_ung h
    split at h
    · obtain ⟨v, a, b⟩ := ex_pick h
      exact ⟨v, a, fun K' hk => f1 _ (b _ hk)⟩
    · exact h.elim
  | bin op x y =>
    obtain ⟨v, a, b⟩ := ex_bin h
    exact ⟨_, a, fun K' hk => b _ hk⟩
  | not x =>
    obtain ⟨v1, h, f1⟩ := ex_ung h
    split at h
    · exact ⟨_, h, fun K' hk => f1 _ hk⟩
    · exact h.elim
  | cpl x =>
    obtain ⟨v1, h, f1⟩ := ex_ung h
    split at h
    · exact ⟨_, h, fun K' hk => f1 _ hk⟩
    · exact h.elim
  | conv k x =>
    obtain ⟨v1, h, f1⟩ := ex_ung h
    split at h
    · exact ⟨_, h, fun K' hk => f1 _ hk⟩
    · exact h.elim
  | b2s x =>
    obtain ⟨v1, h, f1⟩ := ex_ung h
    obtain ⟨xs, a, b⟩ := ex_elems h
    exact ⟨_, a.2, fun K' hk => f1 _ (b _ ⟨a.1, hk⟩)⟩
  | len b x =>
    simp only [opW] at h ⊢
    obtain ⟨v, a, b⟩ := ex_len h
    exact ⟨_, a, fun K' hk => b _ hk⟩
  | beq x y =>
    obtain ⟨v1, h, f1⟩ := ex_ung h
    obtain ⟨v2, h, f2⟩ := ex_ung h
    split at h
    · exact ⟨_, h, fun K' hk => f1 _ (f2 _ hk)⟩
    · exact h.elim
  | bne x y =>
    obtain ⟨v1, h, f1⟩ := ex_ung h
    obtain ⟨v2, h, f2⟩ := ex_ung h
    split at h
    · exact ⟨_, h, fun K' hk => f1 _ (f2 _ hk)⟩
    · exact h.elim
  | mks n z => cases hq
  | mn x y =>
    obtain ⟨v1, h, f1⟩ := ex_ung h
    obtain ⟨v2, h, f2⟩ := ex_ung h
    split at h
    · exact ⟨_, h.2, fun K' hk => f1 _ (f2 _ ⟨h.1, hk⟩)⟩
    · exact h.elim
  | mx x y =>
    obtain ⟨v1, h, f1⟩ := ex_ung h
    obtain ⟨v2, h, f2⟩ := ex_ung h
    split at h
    · exact ⟨_, h.2, fun K' hk => f1 _ (f2 _ ⟨h.1, hk⟩)⟩
    · exact h.elim
  | ext x i =>
    obtain ⟨v1, h, f1⟩ := ex_ung h
    split at h
    · exact ⟨_, h.2, fun K' hk => f1 _ ⟨h.1, hk⟩⟩
    · exact h.elim
  | sidx x i =>
    obtain ⟨v1, h, f1⟩ := ex_ung h
    obtain ⟨v2, h, f2⟩ := ex_ung h
    split at h
    · exact ⟨_, h.2, fun K' hk => f1 _ (f2 _ ⟨h.1, hk⟩)⟩
    · exact h.elim
  | aidx n x i =>
    obtain ⟨v1, h, f1⟩ := ex_ung h
    obtain ⟨v2, h, f2⟩ := ex_ung h
    split at h
    · exact ⟨_, h.2.2, fun K' hk => f1 _ (f2 _ ⟨h.1, h.2.1, hk⟩)⟩
    · exact h.elim
  | fa x off =>
    obtain ⟨v1, h, f1⟩ := ex_ung h
    split at h
    · split at h
      · rename_i hg; exact ⟨_, h.2, fun K' hk => f1 _ (by simp only [hg]; exact ⟨h.1, hk⟩)⟩
      · exact h.elim
    · split at h
      · rename_i hg; exact ⟨_, h, fun K' hk => f1 _ (by simp only [hg]; exact hk)⟩
      · rename_i hg; exact ⟨_, h, fun K' hk => f1 _ (by simp only [hg]; exact hk)⟩
      · exact h.elim
    · exact ⟨_, h, fun K' hk => f1 _ hk⟩
    · exact h.elim
  | ia x i e =>
    obtain ⟨v1, h, f1⟩ := ex_ung h
    obtain ⟨v2, h, f2⟩ := ex_ung h
    split at h
    · split at h
      · rename_i hg; exact ⟨_, h.2.2, fun K' hk => f1 _ (f2 _ (by simp only [hg]; exact ⟨h.1, h.2.1, hk⟩))⟩
      · rename_i hg; exact ⟨_, h.2.2, fun K' hk => f1 _ (f2 _ (by simp only [hg]; exact ⟨h.1, h.2.1, hk⟩))⟩
      · exact h.elim
    · exact ⟨_, h.2.2, fun K' hk => f1 _ (f2 _ ⟨h.1, h.2.1, hk⟩)⟩
    · exact h.elim
  | ld x n =>
    simp only [opW] at h ⊢
    obtain ⟨v, a, b⟩ := ex_load h
    exact ⟨_, a, fun K' hk => b _ hk⟩
  | nck x =>
    obtain ⟨v1, h, f1⟩ := ex_ung h
    split at h
    · split at h
      · rename_i hg; exact ⟨_, h, fun K' hk => f1 _ (by simp only [hg]; exact hk)⟩
      · exact h.elim
    · exact ⟨_, h, fun K' hk => f1 _ hk⟩
    · split at h
      · rename_i hg; exact ⟨_, h, fun K' hk => f1 _ (by simp only [hg]; exact hk)⟩
      · rename_i hg; exact ⟨_, h, fun K' hk => f1 _ (by simp only [hg]; exact hk)⟩
      · exact h.elim
    · exact h.elim
  | bld z ps =>
    obtain ⟨v, a, b⟩ := ex_bld h
    exact ⟨_, a, fun K' hk => b _ hk⟩
  | slc x lo hi m e =>
    obtain ⟨v1, h, f1⟩ := ex_ung h
    obtain ⟨a1, h, f2⟩ := ex_opt h
    obtain ⟨a2, h, f3⟩ := ex_opt h
    obtain ⟨a3, h, f4⟩ := ex_opt h
    have f : ∀ G : AV → Option Int → Option Int → Option Int → Prop, G v1 a1 a2 a3 → ungW g (val σ x) fun v => optI g σ lo fun lo => optI g σ hi fun hi => optI g σ m fun m => G v lo hi m :=
      fun G hG => f1 _ (f2 _ (f3 _ (f4 _ hG)))
    clear f1 f2 f3 f4
    split at h
    · split at h
      · rename_i hg; exact ⟨_, h.2.2.2, fun K' hk => f _ (by simp only [hg]; exact ⟨h.1, h.2.1, h.2.2.1, hk⟩)⟩
      · rename_i hg; exact ⟨_, h.2.2.2, fun K' hk => f _ (by simp only [hg]; exact ⟨h.1, h.2.1, h.2.2.1, hk⟩)⟩
      · exact h.elim
    · exact ⟨_, h.2.2, fun K' hk => f _ ⟨h.1, h.2.1, hk⟩⟩
    · exact ⟨_, h.2, fun K' hk => f _ ⟨h.1, hk⟩⟩
    · exact h.elim
  | ssl x lo hi =>
    obtain ⟨v1, h, f1⟩ := ex_ung h
    obtain ⟨a1, h, f2⟩ := ex_opt h
    obtain ⟨a2, h, f3⟩ := ex_opt h
    split at h
    · exact ⟨_, h.2, fun K' hk => f1 _ (f2 _ (f3 _ ⟨h.1, hk⟩))⟩
    · exact h.elim
  | isnil x neg =>
    obtain ⟨v1, h, f1⟩ := ex_ung h
    split at h
    · exact ⟨_, h, fun K' hk => f1 _ hk⟩
    · exact ⟨_, h.2, fun K' hk => f1 _ ⟨h.1, hk⟩⟩
    · split at h
      · rename_i hg; exact ⟨_, h.2, fun K' hk => f1 _ (by simp only [hg]; exact ⟨h.1, hk⟩)⟩
      · rename_i hg; exact ⟨_, h.2, fun K' hk => f1 _ (by simp only [hg]; exact ⟨h.1, hk⟩)⟩
      · exact h.elim
    · exact h.elim
  | _ => cases hq
theorem ex_step {i : IOp} {K : AV → List (Nat × LObj) → Prop} (hq : i.io.quiet = true) (h : stepW P σ H i K) : ∃ v, K v [] ∧ ∀ K' : AV → List (Nat × LObj) → Prop, K' v [] → stepW P σ H i K' := by
  unfold stepW at h ⊢
  split at h
  · exact ex_op hq h
  · split at h
    · rcases h with h | ⟨hb, v, hk⟩
      · obtain ⟨v, a, b⟩ := ex_op hq h
        exact ⟨_, a.2, fun K' hk => .inl (b _ ⟨rfl, hk⟩)⟩
      · exact ⟨_, hk, fun K' hk => .inr ⟨hb, v, hk⟩⟩
    · rcases h with h | ⟨hb, v, hk⟩
      · obtain ⟨v, a, b⟩ := ex_op hq h
        exact ⟨_, a.2, fun K' hk => .inl (b _ ⟨rfl, hk⟩)⟩
      · exact ⟨_, hk, fun K' hk => .inr ⟨hb, v, hk⟩⟩
    · exact h.elim
inductive DT where
  | done
  | no
  | take (k : Nat) (i : IOp) (t : DT)
  | br (k : Nat) (i : IOp) (ms : List Bool) (t rest : DT)
def sel {α : Type} : List Bool → List α → List α
  | true :: ms, x :: l => x :: sel ms l
  | false :: ms, _ :: l => sel ms l
  | _, _ => []
def pendW (P : Program) (σ : Slots) (H : LH) : List (Nat × IOp × AV) → Prop
  | [] => True
  | (_, i, v) :: l => (stepW P σ H i fun v' ws => ws = [] ∧ v' = v) ∧ pendW P σ H l
def drawW (P : Program) (K : Slots → LH → Prop) : DT → List (Nat × IOp × AV) → Slots → LH → Prop
  | .done, _, σ, H => K σ H
  | .no, _, _, _ => True
  | .take k i t, pd, σ, H => stepW P σ H i fun v ws => ws = [] ∧ drawW P K t ((k, i, v) :: pd) (Slots.put σ i.d v) H
  | .br _ i ms t r, pd, σ, H => (stepW P σ H i fun v ws => pendW P (Slots.put σ i.d v) (LH.sets H ws) (sel ms pd) ∧ drawW P K t (sel ms pd) (Slots.put σ i.d v) (LH.sets H ws)) ∧ drawW P K r pd σ H
def DT.brs : DT → List Nat
  | .br k _ _ _ r => k :: r.brs
  | _ => []
def dIn (d : Option Nat) (l : List Nat) : Bool :=
  match d with
  | some d => l.contains d
  | none => false
def dNe (d d' : Option Nat) : Bool :=
  match d, d' with
  | some a, some b => a != b
  | _, _ => true
def aft (o : Oper) : List Nat := (o.after.toList.filter (Region.binds .any)).map (·.on)
def chkPend (af : List Nat) (i : IOp) (pi : List (Nat × IOp)) : Bool :=
  pi.all fun x => (af.contains x.1 || !dIn x.2.d i.reads) && dNe i.d x.2.d
def chkSel (af : List Nat) : List Bool → List (Nat × IOp) → Bool
  | true :: ms, _ :: l => chkSel af ms l
  | false :: ms, x :: l => af.contains x.1 && chkSel af ms l
  | [], [] => true
  | _, _ => false
def chkDT (P : Program) (n : Nat) (ops : Array Oper) : DT → Array Bool → List (Nat × IOp) → Bool → Bool
  | .done, la, pi, hd => !hd || (Region.ready .any ops la).isEmpty
  | .no, _, _, hd => !hd
  | .take k i t, la, pi, hd => hd && (Region.ready .any ops la).contains k &&
    (match ops[k]? with
     | some o => chkIOp P n ops o i && i.io.quiet && chkPend (aft o) i pi && !dIn i.d i.reads && (pi.all fun x => !dIn i.d x.2.reads) &&
        chkDT P n ops t (la.setIfInBounds k true) ((k, i) :: pi) true
     | none => false)
  | .br k i ms t r, la, pi, hd => (!hd || (Region.ready .any ops la).all fun j => (k :: r.brs).contains j) && (Region.ready .any ops la).contains k &&
    (match ops[k]? with
     | some o => chkIOp P n ops o i && chkSel (aft o) ms pi && chkPend (aft o) i (sel ms pi) && chkDT P n ops t (la.setIfInBounds k true) (sel ms pi) true
     | none => false) && chkDT P n ops r la pi false
def chkText (ops : Array Oper) : Bool :=
  (List.range ops.size).all fun k => match ops[k]? with
    | some o => (aft o).all fun j => decide (j < k)
    | none => true
theorem sel_mem {α : Type} : ∀ (ms : List Bool) (l : List α) (x : α), x ∈ sel ms l → x ∈ l
  | true :: ms, y :: l, x, h => by
    simp only [sel, List.mem_cons] at h ⊢
    exact h.imp id (sel_mem ms l x)
  | false :: ms, y :: l, x, h => by
    simp only [sel] at h
    exact List.mem_cons_of_mem _ (sel_mem ms l x h)
  | [], _, x, h => by simp [sel] at h
  | true :: _, [], x, h => by simp [sel] at h
  | false :: _, [], x, h => by simp [sel] at h
theorem sel_map {α β : Type} (f : α → β) : ∀ (ms : List Bool) (l : List α), (sel ms l).map f = sel ms (l.map f)
  | true :: ms, y :: l => by simp [sel, sel_map f ms l]
  | false :: ms, y :: l => by simp [sel, sel_map f ms l]
  | [], _ => by simp [sel]
  | true :: _, [] => by simp [sel]
  | false :: _, [] => by simp [sel]
theorem sel_or {af : List Nat} : ∀ (ms : List Bool) (pd : List (Nat × IOp × AV)), chkSel af ms (pd.map fun e => (e.1, e.2.1)) = true → ∀ e ∈ pd, e ∈ sel ms pd ∨ e.1 ∈ af
  | true :: ms, y :: l, h, e, he => by
    simp only [List.map_cons, chkSel] at h
    simp only [sel, List.mem_cons] at he ⊢
    rcases he with rfl | he
    · exact .inl (.inl rfl)
    · exact (sel_or ms l h e he).imp .inr id
  | false :: ms, y :: l, h, e, he => by
    simp only [List.map_cons, chkSel, Bool.and_eq_true, List.contains_iff_mem] at h
    simp only [sel, List.mem_cons] at he ⊢
    rcases he with rfl | he
    · exact .inr h.1
    · exact sel_or ms l h.2 e he
  | _, [], h, e, he => by simp at he
  | [], _ :: _, h, e, he => by simp [chkSel] at h
theorem pend_mem : ∀ (pd : List (Nat × IOp × AV)), pendW P σ H pd → ∀ e ∈ pd, stepW P σ H e.2.1 fun v' ws => ws = [] ∧ v' = e.2.2
  | [], _, e, he => by simp at he
  | (k, i, v) :: l, h, e, he => by
    rcases List.mem_cons.1 he with rfl | he
    · exact h.1
    · exact pend_mem l h.2 e he
theorem set_get {la : Array Bool} {i j : Nat} : (la.setIfInBounds i true).getD j true = false ↔ j ≠ i ∧ la.getD j true = false := by
  by_cases e : i = j
  · subst e
    by_cases hl : i < la.size
    · simp [hl]
    · simp [hl]
  · rw [Go.getD_set_ne _ e]
    simp [Ne.symm e]
def cnt (l : Array Bool) : Nat := l.toList.count false
theorem count_set : ∀ (l : List Bool) (i : Nat), l[i]? = some false → (l.set i true).count false + 1 = l.count false
  | [], i, h => by simp at h
  | x :: l, 0, h => by
    simp at h; subst h
    simp
  | x :: l, i + 1, h => by
    have := count_set l i (by simpa using h)
    simp only [List.set_cons_succ, List.count_cons]
    omega
theorem cnt_set {l : Array Bool} {i : Nat} (h : l.getD i true = false) : cnt (l.setIfInBounds i true) + 1 = cnt l := by
  unfold cnt
  rw [Array.toList_setIfInBounds]
  refine count_set _ _ ?_
  by_cases hl : i < l.size
  · simp [hl] at h ⊢; exact h
  · simp [hl] at h
theorem cnt_zero {l : Array Bool} (h : cnt l = 0) (i : Nat) : l.getD i true = true := by
  cases hb : l.getD i true with
  | true => rfl
  | false => have := cnt_set hb; omega
theorem ready_all {ops : Array Oper} (ht : chkText ops = true) {lc : Array Bool} (hs : lc.size = ops.size) (hr : Region.ready .any ops lc = []) : ∀ j, lc.getD j true = true := by
  intro j
  induction j using Nat.strongRecOn with
  | ind j ih =>
    cases hb : lc.getD j true with
    | true => rfl
    | false =>
      exfalso
      have hj : j < ops.size := by
        by_cases hl : j < lc.size
        · omega
        · simp [hl] at hb
      have : j ∈ Region.ready .any ops lc := by
        refine mem_ready.2 ⟨hb, ops[j], by simp [hj], fun e he hbd => ?_⟩
        have h1 := List.all_eq_true.1 ht j (List.mem_range.2 hj)
        simp only [hj, getElem?_pos, List.all_eq_true, decide_eq_true_eq] at h1
        have hlt := h1 e.on (List.mem_map.2 ⟨e, List.mem_filter.2 ⟨Array.mem_toList_iff.2 he, hbd⟩, rfl⟩)
        have h2 := ih e.on hlt
        have : e.on < lc.size := by omega
        simp [this] at h2 ⊢
        exact h2
      rw [hr] at this
      cases this
structure Inv (P : Program) (C : Ctx) (ops : Array Oper) (lc la : Array Bool) (pd : List (Nat × IOp × AV)) (σ : Slots) (H : LH) (a : Act) (w : World) : Prop where
  sc : lc.size = ops.size
  sa : la.size = ops.size
  up : ∀ j, la.getD j true = false → lc.getD j true = false
  dn : ∀ j, lc.getD j true = false → la.getD j true = false ∨ ∃ e ∈ pd, e.1 = j
  list : ∀ e ∈ pd, la.getD e.1 true = true
  uniq : ∀ e ∈ pd, ∀ e' ∈ pd, e.1 = e'.1 → e = e'
  hold : ∀ e ∈ pd, lc.getD e.1 true = false → e.2.1.io.quiet = true ∧ (∃ o, ops[e.1]? = some o ∧ chkIOp P C.n ops o e.2.1 = true) ∧
    (∀ K : AV → List (Nat × LObj) → Prop, K e.2.2 [] → stepW P σ H e.2.1 K) ∧ ∀ d, e.2.1.d = some d → Slots.get σ d = e.2.2
  pair : ∀ e ∈ pd, ∀ e' ∈ pd, lc.getD e.1 true = false → lc.getD e'.1 true = false → ∀ o, ops[e.1]? = some o → e'.1 ∈ aft o ∨ ∀ d, e'.2.1.d = some d → d ∉ e.2.1.reads
  dist : ∀ e ∈ pd, ∀ e' ∈ pd, lc.getD e.1 true = false → lc.getD e'.1 true = false → e.1 ≠ e'.1 → ∀ d, e.2.1.d = some d → e'.2.1.d ≠ some d
  r : ∃ ι S σc, R C ι S σc H a w ∧ ∀ t, (∀ e ∈ pd, lc.getD e.1 true = false → e.2.1.d ≠ some t) → Slots.get σc t = Slots.get σ t
section
variable {C : Ctx} {ops : Array Oper} {K : Slots → LH → Prop} {Q : Exit → Act → World → Prop}
def Hit (P : Program) (n : Nat) (ops : Array Oper) (K : Slots → LH → Prop) (la : Array Bool) (pd : List (Nat × IOp × AV)) (σ : Slots) (H : LH) (i : Nat) : Prop :=
  ∃ ii ms t' o, ops[i]? = some o ∧ chkIOp P n ops o ii = true ∧ chkSel (aft o) ms (pd.map fun e => (e.1, e.2.1)) = true ∧
    chkPend (aft o) ii ((sel ms pd).map fun e => (e.1, e.2.1)) = true ∧ chkDT P n ops t' (la.setIfInBounds i true) ((sel ms pd).map fun e => (e.1, e.2.1)) true = true ∧
    stepW P σ H ii fun v ws => pendW P (Slots.put σ ii.d v) (LH.sets H ws) (sel ms pd) ∧ drawW P K t' (sel ms pd) (Slots.put σ ii.d v) (LH.sets H ws)
theorem hit_of {la : Array Bool} {pd : List (Nat × IOp × AV)} {i n : Nat} : ∀ (t : DT) (hd : Bool), chkDT P n ops t la (pd.map fun e => (e.1, e.2.1)) hd = true → drawW P K t pd σ H → i ∈ t.brs → Hit P n ops K la pd σ H i
  | .br k ii ms t r, hd, hc, hw, hi => by
    simp only [chkDT, Bool.and_eq_true] at hc
    obtain ⟨⟨⟨_, hrk⟩, ho⟩, hr⟩ := hc
    simp only [DT.brs, List.mem_cons] at hi
    by_cases e : i = k
    · subst e
      split at ho
      · rename_i o hop
        simp only [Bool.and_eq_true] at ho
        refine ⟨ii, ms, t, o, hop, ho.1.1.1, ho.1.1.2, ?_, ?_, hw.1⟩
        · rw [sel_map]; exact ho.1.2
        · rw [sel_map]; exact ho.2
      · cases ho
    · exact hit_of r false hr hw.2 (hi.resolve_left e)
  | .done, _, _, _, hi => by simp [DT.brs] at hi
  | .no, _, _, _, hi => by simp [DT.brs] at hi
  | .take _ _ _, _, _, _, hi => by simp [DT.brs] at hi
theorem R.slots {ι : Nat → Loc} {S : Nat → Nat → Prop} {a : Act} {w : World} (h : R C ι S σ H a w) (e : ∀ t, Slots.get σ t = Slots.get σ' t) : R C ι S σ' H a w :=
  ⟨h.fr, h.hr, fun t => e t ▸ h.sl t, h.own, h.sup, h.sub, h.loc, h.size, h.defs⟩
theorem dIn_not {d : Option Nat} {l : List Nat} (h : dIn d l = false) : ∀ x, d = some x → x ∉ l := by
  intro x hx hm
  subst hx
  simp [dIn, hm] at h
theorem dNe_not {d d' : Option Nat} (h : dNe d d' = true) : ∀ x, d = some x → d' ≠ some x := by
  intro x hx hm
  subst hx; subst hm
  simp [dNe] at h
theorem finish {lc la : Array Bool} {pd : List (Nat × IOp × AV)} {a : Act} {w : World} {t : DT} (ht : chkText ops = true) (hq : ∀ ι S σ H a w, K σ H → R C ι S σ H a w → Q .normal a w)
    (hI : Inv P C ops lc la pd σ H a w) (hc : chkDT P C.n ops t la (pd.map fun e => (e.1, e.2.1)) true = true) (hw : drawW P K t pd σ H) (hr : Region.ready .any ops lc = []) : Q .normal a w := by
  have hall := ready_all ht hI.sc hr
  have hla : ∀ j, la.getD j true = true := fun j => by
    cases hb : la.getD j true with
    | true => rfl
    | false => have := hI.up j hb; rw [hall j] at this; cases this
  have hno : ∀ k, (Region.ready .any ops la).contains k = false := fun k => by
    cases hb : (Region.ready .any ops la).contains k with
    | false => rfl
    | true =>
      have := (mem_ready.1 (List.contains_iff_mem.1 hb)).1
      rw [hla k] at this; cases this
  cases t with
  | done =>
    obtain ⟨ι, S, σc, hR, he⟩ := hI.r
    refine hq ι S σ H a w hw (hR.slots fun t => he t fun e _ hf => ?_)
    rw [hall] at hf; cases hf
  | no => simp [chkDT] at hc
  | take k i t =>
    simp only [chkDT, Bool.and_eq_true] at hc
    rw [hno k] at hc
    cases hc.1.2
  | br k i ms t r =>
    simp only [chkDT, Bool.and_eq_true] at hc
    rw [hno k] at hc
    cases hc.1.1.2
theorem inv_pend {lc la : Array Bool} {pd : List (Nat × IOp × AV)} {a : Act} {w : World} (hI : Inv P C ops lc la pd σ H a w) {e : Nat × IOp × AV} (he : e ∈ pd) (hl : lc.getD e.1 true = false)
    {o : Oper} (ho : ops[e.1]? = some o) (hdep : ∀ j ∈ aft o, lc.getD j true = true) {N : Act → World → Prop} {Q : Exit → Act → World → Prop}
    (hN : ∀ a w, Inv P C ops (lc.setIfInBounds e.1 true) la pd σ H a w → N a w) :
    (Region.wanted o (yielded ops a.tmps) = true → o.wp P a w N Q) ∧ (Region.wanted o (yielded ops a.tmps) = false → N (a.put o.dst undef) w) := by
  obtain ⟨ι, S, σc, hR, hsl⟩ := hI.r
  obtain ⟨hqt, ⟨o', ho', hck⟩, hset, hget⟩ := hI.hold e he hl
  rw [ho] at ho'; cases ho'
  have hst : stepW P σc H e.2.1 fun v' ws => ws = [] ∧ v' = e.2.2 := by
    rw [stepW_congr (σ' := σ)]
    · exact hset _ ⟨rfl, rfl⟩
    · intro t ht
      refine hsl t fun e' he' hl' hd => ?_
      rcases hI.pair e he e' he' hl hl' o ho with h1 | h1
      · rw [hdep _ h1] at hl'; cases hl'
      · exact h1 t hd ht
  refine step_sound hR hck hst (fun av ws ι' S' w' v hk hR' hv => ?_)
  obtain ⟨rfl, rfl⟩ := hk
  have hi := hck
  simp only [chkIOp, Bool.and_eq_true, beq_iff_eq] at hi
  have hdd : o.dst = e.2.1.d := hi.1.1.1
  refine hN _ _ ⟨by simp [hI.sc], hI.sa, fun j hj => ?_, fun j hj => ?_, hI.list, hI.uniq, fun e' he' hl' => ?_, fun e1 h1 e2 h2 l1 l2 => ?_, fun e1 h1 e2 h2 l1 l2 => ?_, ?_⟩
  · refine set_get.2 ⟨fun hje => ?_, hI.up j hj⟩
    subst hje
    rw [hI.list e he] at hj; cases hj
  · exact hI.dn j (set_get.1 hj).2
  · exact hI.hold e' he' (set_get.1 hl').2
  · exact hI.pair e1 h1 e2 h2 (set_get.1 l1).2 (set_get.1 l2).2
  · exact hI.dist e1 h1 e2 h2 (set_get.1 l1).2 (set_get.1 l2).2
  · refine ⟨ι', S', Slots.put σc o.dst e.2.2, hR'.put hv (fun k hk => ?_), fun t ht => ?_⟩
    · have := hi.1.1.2
      rw [← hdd, hk] at this
      simpa using this
    · rw [hdd]
      have old : e.2.1.d ≠ some t → Slots.get σc t = Slots.get σ t := fun hne => hsl t fun e' he' hl' hd => by
        by_cases hee : e'.1 = e.1
        · rw [hI.uniq e' he' e he hee] at hd; exact hne hd
        · exact ht e' he' (set_get.2 ⟨hee, hl'⟩) hd
      cases hd : e.2.1.d with
      | none => exact old (by rw [hd]; simp)
      | some d =>
        simp only [Slots.put, Slots.get_set]
        by_cases htd : t = d
        · subst htd
          rw [if_pos rfl, hget _ hd]
        · rw [if_neg htd]
          exact old (by rw [hd]; simpa using Ne.symm htd)
theorem inv_hit {lc la : Array Bool} {pd : List (Nat × IOp × AV)} {a : Act} {w : World} (hI : Inv P C ops lc la pd σ H a w) {i : Nat} (hl : lc.getD i true = false) (hla : la.getD i true = false)
    {o : Oper} (ho : ops[i]? = some o) (hdep : ∀ j ∈ aft o, lc.getD j true = true) (hh : Hit P C.n ops K la pd σ H i) {N : Act → World → Prop} {Q : Exit → Act → World → Prop}
    (hN : ∀ t' pd' σ' H' a w, Inv P C ops (lc.setIfInBounds i true) (la.setIfInBounds i true) pd' σ' H' a w → chkDT P C.n ops t' (la.setIfInBounds i true) (pd'.map fun e => (e.1, e.2.1)) true = true →
      drawW P K t' pd' σ' H' → N a w) :
    (Region.wanted o (yielded ops a.tmps) = true → o.wp P a w N Q) ∧ (Region.wanted o (yielded ops a.tmps) = false → N (a.put o.dst undef) w) := by
  obtain ⟨ι, S, σc, hR, hsl⟩ := hI.r
  obtain ⟨ii, ms, t', o', ho', hck, hsel, hpend, hct, hst⟩ := hh
  rw [ho] at ho'; cases ho'
  have live : ∀ e ∈ pd, lc.getD e.1 true = false → e ∈ sel ms pd := fun e he hle => by
    rcases sel_or ms pd hsel e he with h1 | h1
    · exact h1
    · rw [hdep _ h1] at hle; cases hle
  have hpe : ∀ e ∈ sel ms pd, lc.getD e.1 true = false → (∀ d, e.2.1.d = some d → d ∉ ii.reads) ∧ ∀ d, ii.d = some d → e.2.1.d ≠ some d := fun e he hle => by
    have h1 := List.all_eq_true.1 hpend (e.1, e.2.1) (List.mem_map.2 ⟨e, he, rfl⟩)
    simp only [Bool.and_eq_true, Bool.or_eq_true, Bool.not_eq_true', List.contains_iff_mem] at h1
    refine ⟨?_, dNe_not h1.2⟩
    rcases h1.1 with h2 | h2
    · rw [hdep _ h2] at hle; cases hle
    · exact dIn_not h2
  have hst' := hst
  rw [stepW_congr (σ' := σc)] at hst'
  · refine step_sound hR hck hst' (fun av ws ι' S' w' v hk hR' hv => ?_)
    obtain ⟨hpw, hdw⟩ := hk
    have hi := hck
    simp only [chkIOp, Bool.and_eq_true, beq_iff_eq] at hi
    have hdd : o.dst = ii.d := hi.1.1.1
    refine hN t' (sel ms pd) _ _ _ _ ⟨by simp [hI.sc], by simp [hI.sa], fun j hj => ?_, fun j hj => ?_, fun e he => ?_, fun e he e' he' => hI.uniq e (sel_mem _ _ _ he) e' (sel_mem _ _ _ he'),
      fun e he hle => ?_, fun e he e' he' h1 h2 => hI.pair e (sel_mem _ _ _ he) e' (sel_mem _ _ _ he') (set_get.1 h1).2 (set_get.1 h2).2,
      fun e he e' he' h1 h2 => hI.dist e (sel_mem _ _ _ he) e' (sel_mem _ _ _ he') (set_get.1 h1).2 (set_get.1 h2).2, ?_⟩ hct hdw
    · have := set_get.1 hj
      exact set_get.2 ⟨this.1, hI.up j this.2⟩
    · have hj' := set_get.1 hj
      rcases hI.dn j hj'.2 with h1 | ⟨e, he, rfl⟩
      · exact .inl (set_get.2 ⟨hj'.1, h1⟩)
      · exact .inr ⟨e, live e he hj'.2, rfl⟩
    · have := hI.list e (sel_mem _ _ _ he)
      cases hb : (la.setIfInBounds i true).getD e.1 true with
      | true => rfl
      | false => rw [(set_get.1 hb).2] at this; cases this
    · have hle' := (set_get.1 hle).2
      obtain ⟨hq1, hq2, hq3, hq4⟩ := hI.hold e (sel_mem _ _ _ he) hle'
      obtain ⟨v', hv', hs'⟩ := ex_step hq1 (pend_mem _ hpw e he)
      refine ⟨hq1, hq2, fun K' hk' => hs' K' (hv'.2 ▸ hk'), fun d hd => ?_⟩
      have hne := (hpe e he hle').2
      cases hdi : ii.d with
      | none => simp only [Slots.put]; exact hq4 d hd
      | some d' =>
        simp only [Slots.put, Slots.get_set]
        rw [if_neg (fun e1 => hne d' hdi (by rw [hd, e1]))]
        exact hq4 d hd
    · refine ⟨ι', S', Slots.put σc o.dst av, hR'.put hv (fun k hk => ?_), fun t ht => ?_⟩
      · have := hi.1.1.2
        rw [← hdd, hk] at this
        simpa using this
      · rw [hdd]
        have old : ii.d ≠ some t → Slots.get σc t = Slots.get σ t := fun hne => hsl t fun e' he' hl' hd => by
          refine ht e' (live e' he' hl') (set_get.2 ⟨fun h1 => ?_, hl'⟩) hd
          have := hI.list e' he'
          rw [h1, hla] at this; cases this
        cases hd : ii.d with
        | none => exact old (by rw [hd]; simp)
        | some d =>
          simp only [Slots.put, Slots.get_set]
          by_cases htd : t = d
          · rw [if_pos htd, if_pos htd]
          · rw [if_neg htd, if_neg htd]
            exact old (by rw [hd]; simpa using Ne.symm htd)
  · intro t ht
    refine (hsl t fun e' he' hl' hd => ?_).symm
    exact (hpe e' (live e' he' hl') hl').1 t hd ht
theorem inv_take {lc la : Array Bool} {pd : List (Nat × IOp × AV)} {a : Act} {w : World} (hI : Inv P C ops lc la pd σ H a w) {k : Nat} {i : IOp} {t : DT}
    (hc : chkDT P C.n ops (.take k i t) la (pd.map fun e => (e.1, e.2.1)) true = true) (hw : drawW P K (.take k i t) pd σ H) :
    ∃ pd' σ', Inv P C ops lc (la.setIfInBounds k true) pd' σ' H a w ∧ chkDT P C.n ops t (la.setIfInBounds k true) (pd'.map fun e => (e.1, e.2.1)) true = true ∧ drawW P K t pd' σ' H := by
  simp only [chkDT, Bool.and_eq_true] at hc
  obtain ⟨⟨_, hrk⟩, hc⟩ := hc
  have hrk := mem_ready.1 (List.contains_iff_mem.1 hrk)
  split at hc
  case h_2 => cases hc
  rename_i o ho
  simp only [Bool.and_eq_true, Bool.not_eq_true'] at hc
  obtain ⟨⟨⟨⟨⟨hck, hqt⟩, hpend⟩, hself⟩, hall⟩, hct⟩ := hc
  obtain ⟨v, ⟨_, hdw⟩, hset⟩ := ex_step hqt hw
  have hself := dIn_not hself
  have hks : k < la.size := by
    by_cases hl : k < la.size
    · exact hl
    · have := hrk.1; simp [hl] at this
  have hnew : ∀ e ∈ pd, e.1 ≠ k := fun e he hk => by
    have := hI.list e he
    rw [hk, hrk.1] at this; cases this
  have hpe : ∀ e ∈ pd, ((e.1 ∈ aft o) ∨ ∀ d, e.2.1.d = some d → d ∉ i.reads) ∧ ∀ d, i.d = some d → e.2.1.d ≠ some d := fun e he => by
    have h1 := List.all_eq_true.1 hpend (e.1, e.2.1) (List.mem_map.2 ⟨e, he, rfl⟩)
    simp only [Bool.and_eq_true, Bool.or_eq_true, Bool.not_eq_true', List.contains_iff_mem] at h1
    exact ⟨h1.1.imp id dIn_not, dNe_not h1.2⟩
  have hpr : ∀ e ∈ pd, ∀ d, i.d = some d → d ∉ e.2.1.reads := fun e he => by
    have h1 := List.all_eq_true.1 hall (e.1, e.2.1) (List.mem_map.2 ⟨e, he, rfl⟩)
    simp only [Bool.not_eq_true'] at h1
    exact dIn_not h1
  have hput : ∀ t, i.d ≠ some t → Slots.get (Slots.put σ i.d v) t = Slots.get σ t := fun t ht => by
    cases hd : i.d with
    | none => rfl
    | some d =>
      simp only [Slots.put, Slots.get_set]
      rw [if_neg (fun e1 => ht (by rw [hd, e1]))]
  have hput' : ∀ d, i.d = some d → Slots.get (Slots.put σ i.d v) d = v := fun d hd => by
    rw [hd]
    simp only [Slots.put, Slots.get_set, if_true]
  refine ⟨(k, i, v) :: pd, Slots.put σ i.d v, ⟨hI.sc, by simp [hI.sa], fun j hj => hI.up j (set_get.1 hj).2, fun j hj => ?_, fun e he => ?_, fun e he e' he' hee => ?_, fun e he hle => ?_,
    fun e he e' he' hl1 hl2 o1 ho1 => ?_, fun e he e' he' hl1 hl2 hne d hd => ?_, ?_⟩, hct, hdw⟩
  · rcases hI.dn j hj with h1 | ⟨e, he, h1⟩
    · by_cases hjk : j = k
      · exact .inr ⟨_, List.mem_cons_self, hjk.symm⟩
      · exact .inl (set_get.2 ⟨hjk, h1⟩)
    · exact .inr ⟨e, List.mem_cons_of_mem _ he, h1⟩
  · cases hb : (la.setIfInBounds k true).getD e.1 true with
    | true => rfl
    | false =>
      have := set_get.1 hb
      rcases List.mem_cons.1 he with rfl | he
      · exact absurd rfl this.1
      · rw [hI.list e he] at this; cases this.2
  · rcases List.mem_cons.1 he with rfl | he <;> rcases List.mem_cons.1 he' with rfl | he'
    · rfl
    · exact absurd hee.symm (hnew e' he')
    · exact absurd hee (hnew e he)
    · exact hI.uniq e he e' he' hee
  · rcases List.mem_cons.1 he with rfl | he
    · refine ⟨hqt, ⟨o, ho, hck⟩, fun K' hk' => ?_, hput'⟩
      rw [stepW_congr (σ' := σ)]
      · exact hset K' hk'
      · exact fun t ht => hput t fun hd => hself t hd ht
    · obtain ⟨hq1, hq2, hq3, hq4⟩ := hI.hold e he hle
      refine ⟨hq1, hq2, fun K' hk' => ?_, fun d hd => ?_⟩
      · rw [stepW_congr (σ' := σ)]
        · exact hq3 K' hk'
        · exact fun t ht => hput t fun hd => hpr e he t hd ht
      · rw [hput d fun h1 => (hpe e he).2 d h1 hd]
        exact hq4 d hd
  · rcases List.mem_cons.1 he with rfl | he <;> rcases List.mem_cons.1 he' with rfl | he'
    · exact .inr hself
    · have e1 : some o1 = some o := by rw [← ho1, ← ho]
      cases e1
      exact (hpe e' he').1
    · exact .inr (hpr e he)
    · exact hI.pair e he e' he' hl1 hl2 o1 ho1
  · rcases List.mem_cons.1 he with rfl | he <;> rcases List.mem_cons.1 he' with rfl | he'
    · exact absurd rfl hne
    · exact (hpe e' he').2 d hd
    · exact fun h1 => (hpe e he).2 d h1 hd
    · exact hI.dist e he e' he' hl1 hl2 hne d hd
  · obtain ⟨ι, S, σc, hR, hsl⟩ := hI.r
    refine ⟨ι, S, σc, hR, fun t ht => ?_⟩
    have hki : lc.getD k true = false := hI.up k hrk.1
    rw [hput t (ht _ List.mem_cons_self hki)]
    exact hsl t fun e he => ht e (List.mem_cons_of_mem _ he)
theorem draw_main (htx : chkText ops = true) (hq : ∀ ι S σ H a w, K σ H → R C ι S σ H a w → Q .normal a w) : ∀ (fuel : Nat) (t : DT) (lc la : Array Bool) (pd : List (Nat × IOp × AV)) (σ : Slots) (H : LH) (a : Act) (w : World),
    Inv P C ops lc la pd σ H a w → chkDT P C.n ops t la (pd.map fun e => (e.1, e.2.1)) true = true → drawW P K t pd σ H → cnt lc ≤ fuel → wpAny P .any ops Q fuel lc a w := by
  intro fuel
  induction fuel with
  | zero =>
    intro t lc la pd σ H a w hI hc hw hn
    have hz := cnt_zero (Nat.le_zero.1 hn)
    have hr : Region.ready .any ops lc = [] := by
      cases hr : Region.ready .any ops lc with
      | nil => rfl
      | cons x l =>
        have := (mem_ready.1 (show x ∈ Region.ready .any ops lc by rw [hr]; simp)).1
        rw [hz x] at this; cases this
    exact ⟨hr, finish htx hq hI hc hw hr⟩
  | succ fuel ih =>
    intro t
    have loud : ∀ (t : DT), (∀ k i r, t ≠ .take k i r) → ∀ (lc la : Array Bool) (pd : List (Nat × IOp × AV)) (σ : Slots) (H : LH) (a : Act) (w : World),
        Inv P C ops lc la pd σ H a w → chkDT P C.n ops t la (pd.map fun e => (e.1, e.2.1)) true = true → drawW P K t pd σ H → cnt lc ≤ fuel + 1 → wpAny P .any ops Q (fuel + 1) lc a w := by
      intro t hnt lc la pd σ H a w hI hc hw hn
      refine ⟨fun hr => finish htx hq hI hc hw hr, fun i hi => ?_⟩
      obtain ⟨hli, o, ho, hdeps⟩ := mem_ready.1 hi
      have hdep : ∀ j ∈ aft o, lc.getD j true = true := fun j hj => by
        obtain ⟨e, he, rfl⟩ := List.mem_map.1 hj
        obtain ⟨he1, he2⟩ := List.mem_filter.1 he
        have h1 := hdeps e (Array.mem_toList_iff.1 he1) he2
        by_cases hl : e.on < lc.size
        · simp [hl] at h1 ⊢; exact h1
        · simp [hl]
      have hcn := cnt_set hli
      have key : (Region.wanted o (yielded ops a.tmps) = true → o.wp P a w (wpAny P .any ops Q fuel (lc.setIfInBounds i true)) Q) ∧
          (Region.wanted o (yielded ops a.tmps) = false → wpAny P .any ops Q fuel (lc.setIfInBounds i true) (a.put o.dst undef) w) := by
        rcases hI.dn i hli with hla | ⟨e, he, rfl⟩
        · have hrla : i ∈ Region.ready .any ops la := mem_ready.2 ⟨hla, o, ho, fun e he hb => by
            have h1 := hdeps e he hb
            have h2 : lc.getD e.on true = true := hdep _ (List.mem_map.2 ⟨e, List.mem_filter.2 ⟨Array.mem_toList_iff.2 he, hb⟩, rfl⟩)
            cases h3 : la.getD e.on true with
            | false => rw [hI.up _ h3] at h2; cases h2
            | true =>
              have : e.on < lc.size := by
                by_cases hl : e.on < lc.size
                · exact hl
                · simp [hl] at h1
              have : e.on < la.size := by rw [hI.sa, ← hI.sc]; exact this
              simp [this] at h3 ⊢; exact h3⟩
          have hbr : i ∈ t.brs := by
            cases t with
            | take k ii r => exact absurd rfl (hnt k ii r)
            | done =>
              simp only [chkDT, Bool.not_true, Bool.false_or, List.isEmpty_iff] at hc
              rw [hc] at hrla; cases hrla
            | no => simp [chkDT] at hc
            | br k ii ms t r =>
              simp only [chkDT, Bool.and_eq_true, Bool.not_true, Bool.false_or, List.all_eq_true] at hc
              exact List.contains_iff_mem.1 (hc.1.1.1 i hrla)
          exact inv_hit hI hli hla ho hdep (hit_of t true hc hw hbr) (fun t' pd' σ' H' a' w' hI' hc' hw' => ih t' _ _ pd' σ' H' a' w' hI' hc' hw' (by omega))
        · exact inv_pend hI he hli ho hdep (fun a' w' hI' => ih t _ _ pd σ H a' w' hI' hc hw (by omega))
      unfold wpOp
      rw [ho]
      by_cases hwant : Region.wanted o (yielded ops a.tmps) = true
      · simp only [hwant, if_true]; exact .inl (key.1 hwant)
      · simp only [hwant]; exact key.2 (by simpa using hwant)
    induction t with
    | take k i t iht =>
      intro lc la pd σ H a w hI hc hw hn
      obtain ⟨pd', σ', hI', hc', hw'⟩ := inv_take hI hc hw
      exact iht lc _ pd' σ' H a w hI' hc' hw' hn
    | done => exact loud _ (fun _ _ _ h => by cases h)
    | no => exact loud _ (fun _ _ _ h => by cases h)
    | br => exact loud _ (fun _ _ _ h => by cases h)
theorem R.drawn {ι : Nat → Loc} {S : Nat → Nat → Prop} {a : Act} {w : World} (h : R C ι S σ H a w) (n : Nat) : R C ι S σ H a { w with drawn := n } := h.heap rfl rfl rfl rfl
def chkDraw (P : Program) (n : Nat) (ops : Array Oper) (t : DT) : Bool := P.follows .mixedOrders && chkText ops && chkDT P n ops t (Array.replicate ops.size false) [] true
theorem draw_sound {id : Nat} {t : DT} {ι : Nat → Loc} {S : Nat → Nat → Prop} {a : Act} {w : World} (hc : chkDraw P C.n ops t = true) (h : R C ι S σ H a w) (hw : drawW P K t [] σ H)
    (hq : ∀ ι S σ H a w, K σ H → R C ι S σ H a w → Q .normal a w) : (Code.region id ops true).wp P Q a w := by
  simp only [chkDraw, Bool.and_eq_true] at hc
  refine wp_region_any hc.1.1 (draw_main hc.1.2 hq ops.size t _ (Array.replicate ops.size false) [] σ H a _ ⟨by simp, by simp, fun j hj => hj, fun j hj => .inl hj, ?_, ?_, ?_, ?_, ?_, ι, S, σ, h.drawn _, fun _ _ => rfl⟩ hc.2 hw ?_)
  all_goals try (intro e he; cases he)
  unfold cnt
  exact Nat.le_trans List.count_le_length (by simp)
end
end
inductive Ex where
  | norm
  | exit (id : Nat)
  | ret
  | pan (t : TypeId) (k : IntKind) (n : Int)
inductive IC where
  | skip
  | reg (ops : List IOp)
  | draw (t : DT)
  | seq (a b : IC)
  | cond (x : Opd) (a b : IC)
  | block (id : Nat) (a : IC)
  | loop (n : Norm) (a : IC)
  | exit (id : Nat)
  | ret
  | keep (n : Norm) (a : IC)
  | pub (t : Nat) (a : IC)
  | pubc (t k : Nat) (a : IC)
  | trunc (t k u : Nat) (a : IC)
  | loop0 (ts : List Nat) (a : IC)
  | pan (t : TypeId) (k : IntKind) (n : Int)
  | regc (ops : List IOp) (d : Option Nat) (u : Nat) (f : Opd) (as0 : List (Opd × Mode))
def pubW (H : LH) (v : AV) (K : LH → Prop) : Prop :=
  match v with
  | .osl i _ _ =>
    match LH.get H i with
    | some (.row e xs) => K (LH.set H i (.vrow e xs))
    | _ => False
  | _ => False
def pubcW (H : LH) (v : AV) (k : Nat) (K : LH → Prop) : Prop :=
  match v with
  | .ref i _ =>
    match LH.get H i with
    | some (.obj cs) =>
      match cs.getD k (.c .undef) with
      | .osl r off len =>
        match LH.get H r with
        | some (.row e xs) => (k < cs.length ∧ r ≠ i) ∧ K (LH.set (LH.set H r (.vrow e xs)) i (.obj (cs.set k (.c (.sl e ((xs.drop off).take len))))))
        | _ => False
      | _ => False
    | _ => False
  | _ => False
def truncW (H : LH) (v : AV) (k u : Nat) (K : LH → Prop) : Prop :=
  match v with
  | .ref i _ =>
    match LH.get H i with
    | some (.obj cs) =>
      match cs.getD k (.c .undef) with
      | .osl r off len =>
        match LH.get H r with
        | some (.row e xs) => (k < cs.length ∧ r ≠ i ∧ off = 0 ∧ fresh H u) ∧ K (LH.set (LH.set (LH.set H r .dead) (64 * u) (.row e (xs.take len))) i (.obj (cs.set k (.osl (64 * u) 0 len))))
        | _ => False
      | .c .nilsl => K H
      | _ => False
    | _ => False
  | _ => False
def setB (σ : Slots) (x : Opd) (b : Bool) : Slots :=
  match x with
  | .t n => Slots.set σ n (.c (.bool b))
  | .c _ => σ
theorem R.setB {C : Ctx} {ι : Nat → Loc} {S : Nat → Nat → Prop} {σ : Slots} {H : LH} {a : Act} {w : World} (h : R C ι S σ H a w) {x : Opd} {b : Bool} (hx : val σ x = .c (.bool b)) : R C ι S (V.setB σ x b) H a w := by
  cases x with
  | c v => exact h
  | t n =>
    refine h.slots fun t => ?_
    simp only [V.setB, Slots.get_set]
    by_cases e : t = n
    · subst e; rw [if_pos rfl]; exact hx
    · rw [if_neg e]
def LoopW (B : (Ex → Slots → LH → Prop) → Slots → LH → Prop) (n : Norm) (Q : Ex → Slots → LH → Prop) (σ : Slots) (H : LH) : Prop :=
  ∀ X : Slots → LH → Prop, (∀ σ H, B (fun e σ' H' => match e with | .norm => normW n σ' H' X | e => Q e σ' H') σ H → X σ H) → normW n σ H X
def keepS (σ : Slots) : List Nat → Slots
  | [] => []
  | t :: ts => (t, Slots.get σ t) :: keepS σ ts
theorem keepS_get (σ : Slots) (ts : List Nat) (t : Nat) : Slots.get (keepS σ ts) t = Slots.get σ t ∨ Slots.get (keepS σ ts) t = .c .undef := by
  induction ts with
  | nil => exact .inr rfl
  | cons x ts ih =>
    simp only [keepS, Slots.get]
    by_cases e : x = t
    · rw [if_pos e, e]; exact .inl rfl
    · rw [if_neg e]; exact ih
theorem R.keepS {C : Ctx} {ι : Nat → Loc} {S : Nat → Nat → Prop} {σ : Slots} {H : LH} {a : Act} {w : World} (h : R C ι S σ H a w) (ts : List Nat) : R C ι S (V.keepS σ ts) H a w :=
  ⟨h.fr, h.hr, fun t => (keepS_get σ ts t).elim (fun e => by rw [e]; exact h.sl t) (fun e => by rw [e]; exact AVR.undef _), h.own, h.sup, h.sub, h.loc, h.size, h.defs⟩
def LoopZ (B : (Ex → Slots → LH → Prop) → Slots → LH → Prop) (ts : List Nat) (Q : Ex → Slots → LH → Prop) (σ : Slots) (H : LH) : Prop :=
  ∀ X : Slots → LH → Prop, (∀ σ H, B (fun e σ' H' => match e with | .norm => X (keepS σ' ts) H' | e => Q e σ' H') σ H → X σ H) → X (keepS σ ts) H
def wpC (P : Program) : IC → (Ex → Slots → LH → Prop) → Slots → LH → Prop
  | .skip, Q, σ, H => Q .norm σ H
  | .reg ops, Q, σ, H => opsW P ops σ H fun σ H => Q .norm σ H
  | .draw t, Q, σ, H => drawW P (fun σ H => Q .norm σ H) t [] σ H
  | .seq a b, Q, σ, H => wpC P a (fun e σ H => match e with | .norm => wpC P b Q σ H | e => Q e σ H) σ H
  | .cond x a b, Q, σ, H =>
    match val σ x with
    | .c (.bool t) => (t = true → wpC P a Q (setB σ x true) H) ∧ (t = false → wpC P b Q (setB σ x false) H)
    | _ => False
  | .block id a, Q, σ, H => wpC P a (fun e σ H => match e with | .exit i => if i = id then Q .norm σ H else Q (.exit i) σ H | e => Q e σ H) σ H
  | .loop n a, Q, σ, H => LoopW (wpC P a) n Q σ H
  | .exit id, Q, σ, H => Q (.exit id) σ H
  | .ret, Q, σ, H => Q .ret σ H
  | .keep n a, Q, σ, H => normW n σ H fun σ H => wpC P a Q σ H
  | .pub t a, Q, σ, H => pubW H (Slots.get σ t) fun H => wpC P a Q σ H
  | .pubc t k a, Q, σ, H => pubcW H (Slots.get σ t) k fun H => wpC P a Q σ H
  | .trunc t k u a, Q, σ, H => wpC P a (fun e σ H => match e with | .norm => truncW H (Slots.get σ t) k u (fun H => Q .norm σ H) | e => Q e σ H) σ H
  | .loop0 ts a, Q, σ, H => LoopZ (wpC P a) ts Q σ H
  | .pan t k n, Q, _, H => Q (.pan t k n) [] H
  | .regc ops d u f as0, Q, σ, H => opsW P ops σ H fun σ H => callX P σ H u f as0 (fun v ws => Q .norm (Slots.put σ d v) (LH.sets H ws)) fun t k n H' => Q (.pan t k n) σ H'
def chkPan (t : TypeId) (k : IntKind) (n : Int) : List Oper → Bool
  | [o, o'] =>
    (match o.op, o.dst, o.guard with
     | .makeInterface t' (.const (.int k' n')), some d, none => decide (t' = t) && decide (k' = k) && decide (n' = n) &&
       (match o'.op, o'.guard with
        | .panic (.tmp d'), none => decide (d' = d)
        | _, _ => false)
     | _, _, _ => false)
  | _ => false
def dstLt (n : Nat) : List Oper → Bool
  | [] => true
  | o :: l => (match o.dst with | some d => decide (d < n) | none => true) && dstLt n l
def notIface (P : Program) (t : TypeId) : Bool :=
  match P.underlying t with
  | some (.interface _) => false
  | some _ => true
  | none => false
def chkC (P : Program) (n : Nat) : IC → Code → Bool
  | .keep _ a, c => chkC P n a c
  | .pub _ a, c => chkC P n a c
  | .pubc _ _ a, c => chkC P n a c
  | .trunc _ _ _ a, c => chkC P n a c
  | .pan t k m, .region _ ops false => chkPan t k m ops.toList && dstLt n ops.toList && notIface P t
  | .regc ops' d u f as0, .region _ ops false => chkOpsC P n ops ops.toList ops' ⟨d, u, none, .call f as0⟩
  | .skip, .skip => true
  | .draw t, .region _ ops true => chkDraw P n ops t
  | .reg ops', .region _ ops false => chkOps P n ops ops.toList ops'
  | .seq a b, .seq c d => chkC P n a c && chkC P n b d
  | .cond x a b, .cond y c d => chkOpd y x && chkC P n a c && chkC P n b d
  | .block id a, .block id' c => id == id' && chkC P n a c
  | .loop _ a, .loop c => chkC P n a c
  | .loop0 _ a, .loop c => chkC P n a c
  | .exit id, .exit id' => id == id'
  | .ret, .ret => true
  | _, _ => false
def Ex.cvt : Ex → Exit
  | .norm => .normal
  | .exit id => .exit id
  | .ret => .ret
  | .pan t k n => .panic [{ v := .iface t (.int k n), recovered := false }]
def LoopFrom (P : Program) (c : Code) (Q : Exit → Act → World → Prop) (a : Act) (w : World) : Prop :=
  ∀ (b : Frame) (k : List Item) (cs : List Frame), ∃ e a' w', Q e a' w' ∧ Arrives P (lone (b.at a (.code c :: .inLoop c :: k)) cs w) b k cs e a' w'
theorem LoopFrom.loop {P : Program} {c : Code} {Q : Exit → Act → World → Prop} {a : Act} {w : World} (h : LoopFrom P c Q a w) : (Code.loop c).wp P Q a w := by
  intro b k cs
  obtain ⟨e, a', w', hq, harr⟩ := h b k cs
  exact ⟨e, a', w', hq, .of_steps (.one step_loop) harr⟩
theorem LoopFrom.round {P : Program} {c : Code} {Q : Exit → Act → World → Prop} {a : Act} {w : World}
    (h : c.wp P (fun e a w => match e with | .normal => LoopFrom P c Q a w | e => Q e a w) a w) : LoopFrom P c Q a w := by
  intro b k cs
  obtain ⟨e, a₁, w₁, hq, harr⟩ := h b (.inLoop c :: k) cs
  cases e with
  | normal =>
    obtain ⟨e₂, a₂, w₂, hq₂, harr₂⟩ := hq b k cs
    exact ⟨e₂, a₂, w₂, hq₂, .of_steps (Steps.trans harr (.one step_inLoop)) harr₂⟩
  | exit id => exact ⟨_, a₁, w₁, hq, .pass (x := .inLoop c) rfl (fun _ _ => .inl (by simp)) harr⟩
  | goto l => exact ⟨_, a₁, w₁, hq, .pass (x := .inLoop c) rfl (fun _ _ => .inl (by simp)) harr⟩
  | ret => exact ⟨_, a₁, w₁, hq, .pass (x := .inLoop c) rfl (fun _ _ => .inl (by simp)) harr⟩
  | panic ch => exact ⟨_, a₁, w₁, hq, .pass (x := .inLoop c) rfl (fun _ _ => .inl (by simp)) harr⟩
  | outgrown => exact ⟨_, a₁, w₁, hq, .pass (x := .inLoop c) rfl (fun _ _ => .inl (by simp)) harr⟩
section
variable {P : Program} {C : Ctx}
def RE (C : Ctx) (ι : Nat → Loc) (S : Nat → Nat → Prop) (e : Ex) (σ : Slots) (H : LH) (a : Act) (w : World) : Prop :=
  R C ι S σ H a w
theorem pan_sound {ops : Array Oper} {Q : Exit → Act → World → Prop} {t : TypeId} {k : IntKind} {n : Int} {ι : Nat → Loc} {S : Nat → Nat → Prop} {σ : Slots} {H : LH} {a : Act} {w : World}
    (h : R C ι S σ H a w) (hi : notIface P t = true) (hd : dstLt C.n ops.toList = true) (hc : chkPan t k n ops.toList = true) (hq : ∀ a, R C ι S [] H a w → Q (.panic [{ v := .iface t (.int k n), recovered := false }]) a w) : wpList P ops Q ops.toList a w := by
  generalize ops.toList = l at hc hd
  unfold chkPan at hc
  split at hc
  case h_2 => cases hc
  rename_i o o'
  split at hc
  case h_2 => cases hc
  rename_i t' k' n' d e1 e2 e3
  simp only [Bool.and_eq_true, decide_eq_true_eq] at hc
  obtain ⟨⟨⟨rfl, rfl⟩, rfl⟩, hc⟩ := hc
  split at hc
  case h_2 => cases hc
  rename_i d' e4 e5
  have : d' = d := by simpa using hc
  subst this
  simp only [dstLt, e2, Bool.and_eq_true, decide_eq_true_eq] at hd
  have hlt : d' < a.tmps.size := by rw [h.size]; exact hd.1
  unfold notIface at hi
  have hund : ∃ dsc, P.underlying t' = some dsc ∧ ∀ ms, dsc ≠ .interface ms := by
    split at hi
    · cases hi
    · rename_i dsc hne hds
      exact ⟨dsc, hds, fun ms e => hne ms e⟩
    · cases hi
  obtain ⟨dsc, hds, hni⟩ := hund
  have w1 : ∀ ys, Region.wanted o ys = true := fun ys => by simp [Region.wanted, e3]
  have w2 : ∀ ys, Region.wanted o' ys = true := fun ys => by simp [Region.wanted, e5]
  unfold wpList
  rw [if_pos (w1 _)]
  left
  unfold Oper.wp
  have r1 : (execOp a.eval o).run P w = .ok (.value (.iface t' (.int k' n'))) w := by
    simp only [execOp, e1]
    refine runV ?_
    show (Instr.makeInterface t' (.int k' n')).run P w = _
    simp only [Instr.makeInterface, Sem.run_bind, run_underlying hds, Result.andThen_ok]
    cases dsc <;> first | rfl | exact absurd rfl (hni _)
  rw [r1, Oper.upon_value]
  unfold wpList
  rw [if_pos (w2 _)]
  left
  unfold Oper.wp
  have ev1 : (a.put o.dst (.iface t' (.int k' n'))).eval (.tmp d') = .iface t' (.int k' n') := by
    simp [Act.eval, Act.put, e2, hlt]
  have r2 : (execOp (a.put o.dst (.iface t' (.int k' n'))).eval o').run P w = .halt (.panic (.iface t' (.int k' n'))) w := by
    simp only [execOp, e4, ev1]
    rfl
  rw [r2]
  rw [e2]
  exact hq _ ⟨h.fr, h.hr, fun t => AVR.undef _, h.own, h.sup, h.sub, h.loc, by simp [Act.put, h.size], h.defs⟩
theorem RowR.take {L : Loc} {S : Nat → Nat → Prop} {w : World} {e : Nat} {xs : List CV} (h : RowR L S w e xs) (n : Nat) : RowR L S w e (xs.take n) := by
  unfold RowR at h ⊢
  split
  · rename_i hn
    rw [if_pos hn] at h
    rw [h]; simp
  · rename_i hn
    rw [if_neg hn] at h
    obtain ⟨h1, h2, h3, h4⟩ := h
    refine ⟨?_, fun x hx => h2 x (List.mem_of_mem_take hx), h3, fun i j hi hj => ?_⟩
    · rw [List.length_take]; omega
    · rw [List.length_take] at hi
      have e1 : (xs.take n).getD i .undef = xs.getD i .undef := by
        simp [List.getD_eq_getElem?_getD, List.getElem?_take, show i < n by omega]
      rw [e1]
      exact h4 i j (by omega) hj
theorem trunc_sound {ι : Nat → Loc} {S : Nat → Nat → Prop} {σ : Slots} {H : LH} {a : Act} {w : World} (h : R C ι S σ H a w) {v : AV} {k u : Nat} {K : LH → Prop} (hw : truncW H v k u K) : ∃ H' ι', K H' ∧ R C ι' S σ H' a w := by
  unfold truncW at hw
  split at hw
  case h_2 => exact hw.elim
  rename_i i off0
  split at hw
  case h_2 => exact hw.elim
  rename_i cs hgo
  split at hw
  case h_3 => exact hw.elim
  case h_2 => exact ⟨H, ι, hw, h⟩
  rename_i r off len hcell
  split at hw
  case h_2 => exact hw.elim
  rename_i e xs hg
  obtain ⟨⟨hk, hri, rfl, hf⟩, hK⟩ := hw
  obtain ⟨hn, hlt⟩ := fresh_none hf (k := 0) (by omega)
  rw [Nat.add_zero] at hn hlt
  have hrow := h.hr.row _ _ _ hg
  have hobj := h.hr.obj _ _ hgo
  obtain ⟨x0, hx0, _, hv0⟩ := hobj k hk
  rw [hcell] at hv0
  obtain ⟨hle, hsl⟩ := oslOK_row (avr_osl hv0) (.inl hg)
  have hR : R C (updL ι (64 * u) (ι r)) S σ (LH.set (LH.set H r .dead) (64 * u) (.row e (xs.take len))) a w := by
    refine h.move hg hn hlt (ι r) default ?_ rfl rfl rfl ?_
    · by_cases hnl : (ι r).isnil = true
      · exact .inr (.inr ⟨hnl, rfl⟩)
      · have : (ι r).isnil = false := by simpa using hnl
        exact .inl ⟨this, this, rfl, fun _ _ => rfl, rfl⟩
    · unfold NewAt
      rw [LH.get_set, if_pos rfl, updL_same]
      exact hrow.take len
  have hiu : i ≠ 64 * u := fun e' => by rw [e', hn] at hgo; cases hgo
  have hgo' : LH.get (LH.set (LH.set H r .dead) (64 * u) (.row e (xs.take len))) i = some (.obj cs) := by
    rw [LH.get_set, if_neg hiu, LH.get_set, if_neg (Ne.symm hri)]; exact hgo
  have hgr : LH.get (LH.set (LH.set H r .dead) (64 * u) (.row e (xs.take len))) (64 * u) = some (.row e (xs.take len)) := by rw [LH.get_set, if_pos rfl]
  have hobj' := hR.hr.obj _ _ hgo'
  have hkp : Kept (updL ι (64 * u) (ι r)) (updL ι (64 * u) (ι r)) i (.obj cs) (.obj (cs.set k (.osl (64 * u) 0 len))) := ⟨rfl, by simp⟩
  refine ⟨_, _, hK, hR.write hgo' (by unfold Owned; rw [hgo']; trivial) hkp (by simp) (fun _ _ => rfl) rfl rfl rfl rfl ?_⟩
  unfold NewAt
  rw [LH.get_set, if_pos rfl]
  intro q hq
  simp only [List.length_set] at hq
  obtain ⟨x, hx, hfz, hxv⟩ := hobj' q hq
  refine ⟨x, hx, hfz, ?_⟩
  by_cases e1 : k = q
  · subst e1
    have : (cs.set k (.osl (64 * u) 0 len)).getD k (.c .undef) = .osl (64 * u) 0 len := by simp [List.getD_eq_getElem?_getD, hk]
    rw [this]
    have hxx : x = x0 := by
      rw [updL_ne ι (ι r) hiu] at hx
      rw [hx] at hx0
      injection hx0
    subst hxx
    refine .osl _ _ _ _ ?_
    unfold OslOK
    rw [LH.get_set, if_neg (Ne.symm hiu), hgr]
    refine ⟨by rw [List.length_take]; omega, ?_⟩
    rw [updL_same]
    exact hsl
  · rw [getD_set_ne _ e1]
    exact hxv.mono (fun _ _ _ hs hx => ⟨hs, hx⟩) (same_kept hgo' hkp)
theorem pub_sound {ι : Nat → Loc} {S : Nat → Nat → Prop} {σ : Slots} {H : LH} {a : Act} {w : World} (h : R C ι S σ H a w) {v : AV} {K : LH → Prop} (hw : pubW H v K) : ∃ H' S', K H' ∧ R C ι S' σ H' a w := by
  unfold pubW at hw
  split at hw
  · split at hw
    · rename_i e xs hg
      obtain ⟨S', hR⟩ := h.pub hg
      exact ⟨_, S', hw, hR⟩
    · exact hw.elim
  · exact hw.elim
theorem pubc_sound {ι : Nat → Loc} {S : Nat → Nat → Prop} {σ : Slots} {H : LH} {a : Act} {w : World} (h : R C ι S σ H a w) {v : AV} {k : Nat} {K : LH → Prop} (hw : pubcW H v k K) : ∃ H' S', K H' ∧ R C ι S' σ H' a w := by
  unfold pubcW at hw
  split at hw
  case h_2 => exact hw.elim
  rename_i i off0
  split at hw
  case h_2 => exact hw.elim
  rename_i cs hgo
  split at hw
  case h_2 => exact hw.elim
  rename_i r off len hcell
  split at hw
  case h_2 => exact hw.elim
  rename_i e xs hg
  obtain ⟨⟨hk, hri⟩, hK⟩ := hw
  obtain ⟨S', hR⟩ := h.pub hg
  refine ⟨_, S', hK, ?_⟩
  have hgo' : LH.get (LH.set H r (.vrow e xs)) i = some (.obj cs) := by rw [LH.get_set, if_neg (Ne.symm hri)]; exact hgo
  have hgr : LH.get (LH.set H r (.vrow e xs)) r = some (.vrow e xs) := by rw [LH.get_set, if_pos rfl]
  have hobj := hR.hr.obj _ _ hgo'
  have hkp : Kept ι ι i (.obj cs) (.obj (cs.set k (.c (.sl e ((xs.drop off).take len))))) := ⟨rfl, by simp⟩
  refine hR.write hgo' (by unfold Owned; rw [hgo']; trivial) hkp (by simp) (fun _ _ => rfl) rfl rfl rfl rfl ?_
  unfold NewAt
  rw [LH.get_set, if_pos rfl]
  intro q hq
  simp only [List.length_set] at hq
  obtain ⟨x, hx, hfz, hxv⟩ := hobj q hq
  refine ⟨x, hx, hfz, ?_⟩
  by_cases e1 : k = q
  · subst e1
    have : (cs.set k (.c (.sl e ((xs.drop off).take len)))).getD k (.c .undef) = .c (.sl e ((xs.drop off).take len)) := by simp [List.getD_eq_getElem?_getD, hk]
    rw [this]
    rw [hcell] at hxv
    obtain ⟨hle, hsl⟩ := oslOK_row (avr_osl hxv) (.inr hgr)
    have hvr := hR.hr.vrow _ _ _ hgr
    refine .c _ _ ?_
    have hlen : ((xs.drop off).take len).length = len := by simp; omega
    by_cases hp : 0 < len
    · obtain ⟨hn, ex⟩ := sliceAt_pos hsl hp
      unfold VRowR at hvr
      rw [if_neg (by simp [hn])] at hvr
      generalize hz : Value.slice (some ⟨(ι r).block, (ι r).off, none⟩) xs.length (ι r).cap = z at hvr
      cases hvr with
      | slnil => simp at hle; omega
      | sl _ _ b o cap us h1 h2 h3 h4 =>
        injection hz with z1 z2 z3
        injection z1 with z1
        injection z1 with zb zo _
        subst zb; subst zo; subst z3
        rw [ex]
        have key : VR w S' (.sl e ((xs.drop off).take len)) (.slice (some ⟨(ι r).block, (ι r).off + off * e, none⟩) ((xs.drop off).take len).length ((ι r).cap - off)) := by
          refine .sl e _ _ _ _ (fun p q => us (off + p) q) (by rw [hlen]; omega) (fun y hy => h2 y (List.mem_of_mem_drop (List.mem_of_mem_take hy))) (fun p q hp hq => ?_) (fun p q hp hq => ?_)
          · rw [hlen] at hp
            have := h3 (off + p) q (by omega) hq
            refine ⟨(by rw [show (ι r).off + off * e + (p * e + q) = (ι r).off + ((off + p) * e + q) by rw [Nat.add_mul]; omega]; exact this.1), ?_⟩
            rw [← this.2]; congr 2; rw [Nat.add_mul]; omega
          · rw [hlen] at hp
            rw [getD_drop_take _ _ hp]
            exact h4 (off + p) q (by omega) hq
        rw [hlen] at key
        exact key
    · have : len = 0 := by omega
      subst this
      obtain ⟨p, c, ex⟩ := sliceLen hsl
      rw [ex, List.take_zero]
      exact .slnil _ _ _
  · rw [getD_set_ne _ e1]
    exact hxv.mono (fun _ _ _ hs hx => ⟨hs, hx⟩) (same_kept hgo' hkp)
theorem code_sound : ∀ (ic : IC) (c : Code) {ι : Nat → Loc} {S : Nat → Nat → Prop} {σ : Slots} {H : LH} {a : Act} {w : World} {Q : Ex → Slots → LH → Prop} {Qc : Exit → Act → World → Prop},
    chkC P C.n ic c = true → R C ι S σ H a w → wpC P ic Q σ H → (∀ e ι S σ H a w, Q e σ H → RE C ι S e σ H a w → Qc e.cvt a w) → c.wp P Qc a w := by
  intro ic
  induction ic with
  | skip =>
    intro c ι S σ H a w Q Qc hc h hw hq
    cases c <;> first | (simp [chkC] at hc; done) | exact wp_skip (hq .norm _ _ _ _ _ _ hw h)
  | reg ops' =>
    intro c ι S σ H a w Q Qc hc h hw hq
    cases c with
    | region id ops d =>
      cases d with
      | true => simp [chkC] at hc
      | false => exact wp_region_list (ops_sound _ _ hc h hw (fun ι S σ H a w hk hR => hq .norm _ _ _ _ _ _ hk hR))
    | _ => simp [chkC] at hc
  | draw t =>
    intro c ι S σ H a w Q Qc hc h hw hq
    cases c with
    | region id ops d =>
      cases d with
      | false => simp [chkC] at hc
      | true => exact draw_sound hc h hw (fun ι S σ H a w hk hR => hq .norm _ _ _ _ _ _ hk hR)
    | _ => simp [chkC] at hc
  | seq x y ihx ihy =>
    intro c ι S σ H a w Q Qc hc h hw hq
    cases c with
    | seq c d =>
      simp only [chkC, Bool.and_eq_true] at hc
      refine wp_seq (ihx c hc.1 h hw (fun e ι S σ H a w hk hR => ?_))
      cases e with
      | norm => exact ihy d hc.2 hR hk hq
      | exit i => exact hq (.exit i) _ _ _ _ _ _ hk hR
      | ret => exact hq .ret _ _ _ _ _ _ hk hR
      | pan t k n => exact hq (.pan t k n) _ _ _ _ _ _ hk hR
    | _ => simp [chkC] at hc
  | cond x p q ihp ihq =>
    intro c ι S σ H a w Q Qc hc h hw hq
    cases c with
    | cond y c d =>
      simp only [chkC, Bool.and_eq_true] at hc
      simp only [wpC] at hw
      have hv := ev h hc.1.1
      split at hw
      · rename_i t e
        rw [e] at hv
        exact wp_cond_split (avr_bool (v := .c (.bool t)) hv) (fun ht => ihp c hc.1.2 (h.setB (b := true) (by rw [e, ht])) (hw.1 ht) hq) (fun ht => ihq d hc.2 (h.setB (b := false) (by rw [e, ht])) (hw.2 ht) hq)
      · exact hw.elim
    | _ => simp [chkC] at hc
  | block id x ih =>
    intro c ι S σ H a w Q Qc hc h hw hq
    cases c with
    | block id' c =>
      simp only [chkC, Bool.and_eq_true, beq_iff_eq] at hc
      obtain ⟨rfl, hc⟩ := hc
      refine wp_block (ih c hc h hw (fun e ι S σ H a w hk hR => ?_))
      cases e with
      | norm => exact hq .norm _ _ _ _ _ _ hk hR
      | exit i =>
        simp only [Ex.cvt, Exit.inBlock]
        simp only at hk
        by_cases e : i = id
        · rw [if_pos e] at hk ⊢; exact hq .norm _ _ _ _ _ _ hk hR
        · rw [if_neg e] at hk ⊢; exact hq (.exit i) _ _ _ _ _ _ hk hR
      | ret => exact hq .ret _ _ _ _ _ _ hk hR
      | pan t k n => exact hq (.pan t k n) _ _ _ _ _ _ hk hR
    | _ => simp [chkC] at hc
  | loop n x ih =>
    intro c ι S σ H a w Q Qc hc h hw hq
    cases c with
    | loop c =>
      refine LoopFrom.loop ?_
      have := hw (fun σ H => ∀ ι S a w, R C ι S σ H a w → LoopFrom P c Qc a w) (fun σ H hB ι S a w hR => ?_)
      · obtain ⟨σ', H', ι', hX, hR⟩ := norm_sound h this
        exact hX _ _ _ _ hR
      · refine LoopFrom.round (ih c hc hR hB (fun e ι S σ H a w hk hR => ?_))
        cases e with
        | norm =>
          obtain ⟨σ', H', ι', hX, hR'⟩ := norm_sound hR hk
          exact hX _ _ _ _ hR'
        | exit i => exact hq (.exit i) _ _ _ _ _ _ hk hR
        | ret => exact hq .ret _ _ _ _ _ _ hk hR
        | pan t k n => exact hq (.pan t k n) _ _ _ _ _ _ hk hR
    | _ => simp [chkC] at hc
  | exit id =>
    intro c ι S σ H a w Q Qc hc h hw hq
    cases c with
    | exit id' =>
      have : id = id' := by simpa [chkC] using hc
      subst this
      exact wp_exit (hq (.exit id) _ _ _ _ _ _ hw h)
    | _ => simp [chkC] at hc
  | ret =>
    intro c ι S σ H a w Q Qc hc h hw hq
    cases c <;> first | (simp [chkC] at hc; done) | exact wp_ret (hq .ret _ _ _ _ _ _ hw h)
  | keep n x ih =>
    intro c ι S σ H a w Q Qc hc h hw hq
    obtain ⟨σ', H', ι', hk, hR⟩ := norm_sound h hw
    exact ih c (by simpa [chkC] using hc) hR hk hq
  | pub t x ih =>
    intro c ι S σ H a w Q Qc hc h hw hq
    obtain ⟨H', S', hk, hR⟩ := pub_sound h hw
    exact ih c (by simpa [chkC] using hc) hR hk hq
  | pubc t k x ih =>
    intro c ι S σ H a w Q Qc hc h hw hq
    obtain ⟨H', S', hk, hR⟩ := pubc_sound h hw
    exact ih c (by simpa [chkC] using hc) hR hk hq
  | loop0 ts x ih =>
    intro c ι S σ H a w Q Qc hc h hw hq
    cases c with
    | loop c =>
      refine LoopFrom.loop ?_
      have := hw (fun σ H => ∀ ι S a w, R C ι S σ H a w → LoopFrom P c Qc a w) (fun σ H hB ι S a w hR => ?_)
      · exact this _ _ _ _ (h.keepS ts)
      · refine LoopFrom.round (ih c hc hR hB (fun e ι S σ H a w hk hR => ?_))
        cases e with
        | norm => exact hk _ _ _ _ (R.keepS hR ts)
        | exit i => exact hq (.exit i) _ _ _ _ _ _ hk hR
        | ret => exact hq .ret _ _ _ _ _ _ hk hR
        | pan t k n => exact hq (.pan t k n) _ _ _ _ _ _ hk hR
    | _ => simp [chkC] at hc
  | trunc t k u x ih =>
    intro c ι S σ H a w Q Qc hc h hw hq
    refine ih c (by simpa [chkC] using hc) h hw (fun e ι S σ H a w hk hR => ?_)
    cases e with
    | norm =>
      obtain ⟨H', ι', hk', hR'⟩ := trunc_sound hR hk
      exact hq .norm _ _ _ _ _ _ hk' hR'
    | exit i => exact hq (.exit i) _ _ _ _ _ _ hk hR
    | ret => exact hq .ret _ _ _ _ _ _ hk hR
    | pan t k n => exact hq (.pan t k n) _ _ _ _ _ _ hk hR
  | pan t k n =>
    intro c ι S σ H a w Q Qc hc h hw hq
    cases c with
    | region id ops d =>
      cases d with
      | true => simp [chkC] at hc
      | false =>
        simp only [chkC, Bool.and_eq_true] at hc
        exact wp_region_list (pan_sound h hc.2 hc.1.2 hc.1.1 fun a hr => hq (.pan t k n) ι S [] H a w hw hr)
    | _ => simp [chkC] at hc
  | regc ops' d u f as0 =>
    intro c ι S σ H a w Q Qc hc h hw hq
    cases c with
    | region id ops dr =>
      cases dr with
      | true => simp [chkC] at hc
      | false =>
        exact wp_region_list (opsC_sound (K := Q .norm) (F := fun t k n σ H => Q (.pan t k n) σ H) _ _ hc h hw (fun ι S σ H a w hk hR => hq .norm _ _ _ _ _ _ hk hR)
          (fun t k n ι S σ H a w hF hr => hq (.pan t k n) ι S σ H a w hF hr))
    | _ => simp [chkC] at hc
end
def retVals (H : LH) (σ : Slots) : List (Nat × Option Nat × Mode) → (List (AV × Mode) → Prop) → Prop
  | [], K => K []
  | (t, none, md) :: l, K => retVals H σ l fun vs => K ((Slots.get σ t, md) :: vs)
  | (t, some n, md) :: l, K => loadW True H (Slots.get σ t) (if n = 0 then none else some n) fun v => retVals H σ l fun vs => K ((v, md) :: vs)
def backL (H : LH) : List Arg → List (List (Option Nat)) → Nat → (List (AV × Mode) → Prop) → Prop
  | [], _, _, K => K []
  | .obj _ :: as0, ms :: mss, j, K =>
    match LH.get H (argBase + 64 * j) with
    | some (.obj _) => backL H as0 mss (j + 1) fun l => K ((.ref (argBase + 64 * j) 0, .ptr ms) :: l)
    | _ => False
  | .obj _ :: as0, [], j, K => False
  | .mutr _ _ :: as0, mss, j, K =>
    match LH.get H (argBase + 64 * j) with
    | some (.row _ xs) => backL H as0 mss (j + 1) fun l => K ((.osl (argBase + 64 * j) 0 xs.length, .mutr) :: l)
    | _ => False
  | .cv _ :: as0, mss, j, K => backL H as0 mss (j + 1) fun l => K ((.c .undef, .plain) :: l)
  | .own _ _ :: as0, mss, j, K => backL H as0 mss (j + 1) fun l => K ((.c .undef, .plain) :: l)
def retW (σ : Slots) (H : LH) (rs : List (Nat × Option Nat × Mode)) (args : List Arg) (mss : List (List (Option Nat))) (out : Out) : Prop :=
  retVals H σ rs fun vs => argsW True retBase H vs 0 fun ras m1 V1 H1 => backL H1 args mss 0 fun bl => argsW True argBase H1 bl 0 fun bas m2 V2 H2 =>
    (ras = out.res.map OC.arg ∧ bas = backArgs args out.back) ∧ ∀ i ∈ V1 ++ V2, isLive H2 i
def chkRet (P : Program) : List ResultVar → List (Nat × Option Nat × Mode) → Bool
  | [], [] => true
  | .tmp t :: l, (t', none, _) :: l' => t == t' && chkRet P l l'
  | .cell t ty :: l, (t', some n, _) :: l' => t == t' && chkLoad P ty (if n = 0 then none else some n) && chkRet P l l'
  | _, _ => false
section
variable {P : Program} {C : Ctx} {ι : Nat → Loc} {S : Nat → Nat → Prop} {σ : Slots} {H : LH} {a : Act} {w : World}
def resOne (tmps : Array Value) : ResultVar → Sem Value
  | .tmp t => pure (tmps.getD t Go.undef)
  | .cell ad t => do loadVar t (← asAddr (tmps.getD ad Go.undef))
theorem retVals_spec (h : R C ι S σ H a w) : ∀ (rv : List ResultVar) (rs : List (Nat × Option Nat × Mode)) (K : List (AV × Mode) → Prop), chkRet P rv rs = true → retVals H σ rs K →
    ∃ (vs : List (AV × Mode)) (us : List Value), K vs ∧ vs.length = rs.length ∧ us.length = vs.length ∧ rv.length = rs.length ∧ (∀ q, q < vs.length → AVR ι H S w (vs.getD q (.c .undef, .plain)).1 (us.getD q Go.undef)) ∧
      ∀ q, q < rv.length → (resOne a.tmps (rv.getD q (.tmp 0))).run P w = .ok (us.getD q Go.undef) w
  | [], [], K, _, hw => ⟨[], [], hw, rfl, rfl, rfl, fun q hq => by simp at hq, fun q hq => by simp at hq⟩
  | .tmp t :: rv, (t', none, md) :: rs, K, hc, hw => by
    simp only [chkRet, Bool.and_eq_true, beq_iff_eq] at hc
    obtain ⟨rfl, hc⟩ := hc
    obtain ⟨vs, us, hK, h1, h2, h3, h4, h5⟩ := retVals_spec h rv rs _ hc hw
    refine ⟨_, a.tmps.getD t Go.undef :: us, hK, by simp [h1], by simp [h2], by simp [h3], fun q hq => ?_, fun q hq => ?_⟩
    · cases q with
      | zero => exact h.sl t
      | succ q => exact h4 q (by simpa using hq)
    · cases q with
      | zero => rfl
      | succ q => exact h5 q (by simpa using hq)
  | .cell t ty :: rv, (t', some n, md) :: rs, K, hc, hw => by
    simp only [chkRet, Bool.and_eq_true, beq_iff_eq] at hc
    obtain ⟨⟨rfl, hl⟩, hc⟩ := hc
    obtain ⟨av, y, hw, hv, hr⟩ := load_sound (P := P) h (h.sl t) hl hw trivial
    obtain ⟨vs, us, hK, h1, h2, h3, h4, h5⟩ := retVals_spec h rv rs _ hc hw
    refine ⟨_, y :: us, hK, by simp [h1], by simp [h2], by simp [h3], fun q hq => ?_, fun q hq => ?_⟩
    · cases q with
      | zero => exact hv
      | succ q => exact h4 q (by simpa using hq)
    · cases q with
      | zero =>
        simp only [List.getD_cons_zero, resOne]
        unfold Instr.loadAt at hr
        rw [Sem.run_bind] at hr ⊢
        cases hx : a.tmps.getD t Go.undef <;> rw [hx] at hr <;> first
          | (simp [Instr.sureAddr, stuck, Sem.run, Result.andThen] at hr; done)
          | skip
        rename_i ad
        cases ad with
        | none => simp [Instr.sureAddr, stuck, Sem.run, Result.andThen] at hr
        | some ad => simpa [Instr.sureAddr, asAddr, pure, Sem.run] using hr
      | succ q => exact h5 q (by simpa using hq)
  | [], _ :: _, _, hc, _ => by simp [chkRet] at hc
  | .tmp _ :: _, [], _, hc, _ => by simp [chkRet] at hc
  | .cell _ _ :: _, [], _, hc, _ => by simp [chkRet] at hc
  | .tmp _ :: _, (_, some _, _) :: _, _, hc, _ => by simp [chkRet] at hc
  | .cell _ _ :: _, (_, none, _) :: _, _, hc, _ => by simp [chkRet] at hc
theorem run_mapM {α : Type} (f : α → Sem Value) : ∀ (l : List α) (us : List Value) (d : α), us.length = l.length → (∀ q, q < l.length → (f (l.getD q d)).run P w = .ok (us.getD q Go.undef) w) → (l.mapM f).run P w = .ok us w
  | [], [], _, _, _ => by simp [pure, Sem.run]
  | x :: l, y :: us, d, hl, h => by
    have h0 := h 0 (by simp)
    simp only [List.getD_cons_zero] at h0
    have := run_mapM f l us d (by simpa using hl) (fun q hq => h (q + 1) (by simpa using hq))
    simp [List.mapM_cons, h0, this, pure, Sem.run]
  | [], _ :: _, _, hl, _ => by simp at hl
  | _ :: _, [], _, hl, _ => by simp at hl
def tupV : List Value → Value
  | [x] => x
  | xs => .tuple xs.toArray
theorem run_results {fn : Func} {rv : List ResultVar} (hr : fn.results.toList = rv) (tmps : Array Value) (us : List Value) (hu : us.length = rv.length)
    (h : ∀ q, q < rv.length → (resOne tmps (rv.getD q (.tmp 0))).run P w = .ok (us.getD q Go.undef) w) :
    (results fn tmps).run P w = .ok (tupV us) w := by
  have hm : (fn.results.mapM (resOne tmps)).run P w = .ok us.toArray w := by
    rw [Array.mapM_eq_mapM_toList, hr]
    have := run_mapM (P := P) (w := w) (resOne tmps) rv us (.tmp 0) hu h
    simp [this]
  have e : results fn tmps = (fn.results.mapM (resOne tmps) >>= fun vs => pure (if h : vs.size = 1 then vs[0] else .tuple vs)) := by
    unfold results
    rfl
  rw [e, Sem.run_bind, hm, Result.andThen_ok]
  clear hm h
  cases us with
  | nil => rfl
  | cons x l =>
    cases l with
    | nil => rfl
    | cons y l => simp [pure, Sem.run, tupV]
theorem backL_spec (h : R C ι S σ H a w) {H1 : LH} (hc : ∀ i o, LH.get H1 i = some o → o ≠ .dead → LH.get H i = some o) : ∀ (args : List Arg) (mss : List (List (Option Nat))) (j : Nat) (K : List (AV × Mode) → Prop), backL H1 args mss j K →
    ∃ (bl : List (AV × Mode)) (us : List Value), K bl ∧ bl.length = args.length ∧ us.length = bl.length ∧ (∀ q, q < bl.length → AVR ι H S w (bl.getD q (.c .undef, .plain)).1 (us.getD q Go.undef)) ∧
      ∀ q, q < args.length → (args.getD q (.cv .undef)).lent = true → (∃ ms, bl.getD q (.c .undef, .plain) = (.ref (argBase + 64 * (j + q)) 0, .ptr ms)) ∨ (∃ n, bl.getD q (.c .undef, .plain) = (.osl (argBase + 64 * (j + q)) 0 n, .mutr))
  | [], mss, j, K, hw => ⟨[], [], hw, rfl, rfl, fun q hq => by simp at hq, fun q hq => by simp at hq⟩
  | .cv v :: args, mss, j, K, hw => by
    obtain ⟨bl, us, hK, h1, h2, h3, h4⟩ := backL_spec h hc args mss (j + 1) _ hw
    refine ⟨_, Go.undef :: us, hK, by simp [h1], by simp [h2], fun q hq => ?_, fun q hq hl => ?_⟩
    · cases q with
      | zero => exact AVR.undef _
      | succ q => exact h3 q (by simpa using hq)
    · cases q with
      | zero => cases hl
      | succ q =>
        have := h4 q (by simpa using hq) (by simpa using hl)
        have e : j + 1 + q = j + (q + 1) := by omega
        rw [e] at this; exact this
  | .own e xs :: args, mss, j, K, hw => by
    obtain ⟨bl, us, hK, h1, h2, h3, h4⟩ := backL_spec h hc args mss (j + 1) _ hw
    refine ⟨_, Go.undef :: us, hK, by simp [h1], by simp [h2], fun q hq => ?_, fun q hq hl => ?_⟩
    · cases q with
      | zero => exact AVR.undef _
      | succ q => exact h3 q (by simpa using hq)
    · cases q with
      | zero => cases hl
      | succ q =>
        have := h4 q (by simpa using hq) (by simpa using hl)
        have e : j + 1 + q = j + (q + 1) := by omega
        rw [e] at this; exact this
  | .obj cs :: args, [], j, K, hw => hw.elim
  | .obj cs :: args, ms :: mss, j, K, hw => by
    simp only [backL] at hw
    split at hw
    · rename_i cs' hg
      obtain ⟨bl, us, hK, h1, h2, h3, h4⟩ := backL_spec h hc args mss (j + 1) _ hw
      refine ⟨_, .pointer (some ⟨(ι (argBase + 64 * j)).block, (ι (argBase + 64 * j)).off + 0, none⟩) :: us, hK, by simp [h1], by simp [h2], fun q hq => ?_, fun q hq hl => ?_⟩
      · cases q with
        | zero =>
          refine .ref _ _ _ ?_
          unfold RefOK
          rw [hc _ _ hg (by simp)]
          exact ⟨Nat.zero_le _, rfl⟩
        | succ q => exact h3 q (by simpa using hq)
      · cases q with
        | zero => exact .inl ⟨ms, rfl⟩
        | succ q =>
          have := h4 q (by simpa using hq) (by simpa using hl)
          have e : j + 1 + q = j + (q + 1) := by omega
          rw [e] at this; exact this
    · exact hw.elim
  | .mutr e0 xs0 :: args, mss, j, K, hw => by
    simp only [backL] at hw
    split at hw
    · rename_i e xs hg
      obtain ⟨bl, us, hK, h1, h2, h3, h4⟩ := backL_spec h hc args mss (j + 1) _ hw
      have hgH := hc _ _ hg (by simp)
      refine ⟨_, (if (ι (argBase + 64 * j)).isnil = true then .slice none 0 0 else .slice (some ⟨(ι (argBase + 64 * j)).block, (ι (argBase + 64 * j)).off + 0 * e, none⟩) xs.length ((ι (argBase + 64 * j)).cap - 0)) :: us, hK, by simp [h1], by simp [h2], fun q hq => ?_, fun q hq hl => ?_⟩
      · cases q with
        | zero =>
          refine .osl _ _ _ _ ?_
          unfold OslOK
          rw [hgH]
          refine ⟨by simp, ?_⟩
          simp only [List.getD_cons_zero]
          have hr := h.hr.row _ _ _ hgH
          unfold RowR at hr
          unfold SliceAt
          split
          · rename_i hn
            rw [if_pos hn] at hr
            subst hr
            exact ⟨rfl, rfl, _, rfl⟩
          · exact .inl rfl
        | succ q => exact h3 q (by simpa using hq)
      · cases q with
        | zero => exact .inr ⟨_, rfl⟩
        | succ q =>
          have := h4 q (by simpa using hq) (by simpa using hl)
          have e : j + 1 + q = j + (q + 1) := by omega
          rw [e] at this; exact this
    · exact hw.elim
theorem OB.append {H H1 A B : LH} {m m' : List (Nat × Option Nat)} {lo mid : Nat} (hl : Lend H H1 m lo mid) (hA : OB H m A) (hB : OB H1 m' B) (hd : ∀ k o, LH.get B k = some o → LH.get A k = none) : OB H (m ++ m') (A ++ B) := by
  refine ⟨fun k e xs hg => ?_, fun k cs hg => ?_, fun k e xs hg => ?_, fun k hg => ?_⟩
  · rw [get_append] at hg
    cases hx : LH.get A k with
    | some o =>
      rw [hx] at hg; cases hg
      rcases hA.row _ _ _ hx with ⟨h1, h2⟩ | ⟨i, h1, h2⟩
      · exact .inl ⟨h1, List.mem_append_left _ h2⟩
      · exact .inr ⟨i, List.mem_append_left _ h1, h2⟩
    | none =>
      rw [hx] at hg
      rcases hB.row _ _ _ hg with ⟨h1, h2⟩ | ⟨i, h1, h2⟩
      · exact .inl ⟨h1, List.mem_append_right _ h2⟩
      · exact .inr ⟨i, List.mem_append_right _ h1, hl.back h2 (by simp)⟩
  · rw [get_append] at hg
    cases hx : LH.get A k with
    | some o =>
      rw [hx] at hg; cases hg
      obtain ⟨i, cs2, h1, h2, h3, h4⟩ := hA.obj _ _ hx
      refine ⟨i, cs2, List.mem_append_left _ h1, h2, h3, fun q hq => ?_⟩
      rcases h4 q hq with h5 | ⟨key, e, xs, h5, h6, h7⟩
      · exact .inl h5
      · refine .inr ⟨key, e, xs, h5, by rw [get_append, h6], ?_⟩
        rcases h7 with ⟨a1, a2, a3⟩ | ⟨i', a1, a2, a3⟩
        · exact .inl ⟨a1, a2, List.mem_append_left _ a3⟩
        · exact .inr ⟨i', a1, List.mem_append_left _ a2, a3⟩
    | none =>
      rw [hx] at hg
      obtain ⟨i, cs2, h1, h2, h3, h4⟩ := hB.obj _ _ hg
      refine ⟨i, cs2, List.mem_append_right _ h1, hl.back h2 (by simp), h3, fun q hq => ?_⟩
      rcases h4 q hq with h5 | ⟨key, e, xs, h5, h6, h7⟩
      · exact .inl h5
      · refine .inr ⟨key, e, xs, h5, by rw [get_append, hd _ _ h6]; exact h6, ?_⟩
        rcases h7 with ⟨a1, a2, a3⟩ | ⟨i', a1, a2, a3⟩
        · exact .inl ⟨a1, a2, List.mem_append_right _ a3⟩
        · exact .inr ⟨i', a1, List.mem_append_right _ a2, hl.back a3 (by simp)⟩
  · rw [get_append] at hg
    cases hx : LH.get A k with
    | some o => rw [hx] at hg; cases hg; exact hA.vrow _ _ _ hx
    | none => rw [hx] at hg; exact hB.vrow _ _ _ hg
  · rw [get_append] at hg
    cases hx : LH.get A k with
    | some o => rw [hx] at hg; cases hg; exact hA.dead _ hx
    | none => rw [hx] at hg; exact hB.dead _ hg
end
theorem slotsOf_get : ∀ (l : List AV) (j t : Nat), Slots.get (slotsOf l j) t = if j ≤ t ∧ t < j + l.length then l.getD (t - j) (.c .undef) else .c .undef
  | [], j, t => by rw [if_neg (by simp)]; rfl
  | v :: l, j, t => by
    simp only [slotsOf, Slots.get]
    by_cases e : j = t
    · subst e
      rw [if_pos rfl, if_pos (by simp), Nat.sub_self, List.getD_cons_zero]
    · rw [if_neg e, slotsOf_get l (j + 1) t]
      by_cases h : j + 1 ≤ t ∧ t < j + 1 + l.length
      · rw [if_pos h, if_pos (by simp; omega)]
        have : t - j = (t - (j + 1)) + 1 := by omega
        rw [this, List.getD_cons_succ]
      · rw [if_neg h, if_neg (by simp; omega)]
theorem fin_sound {P : Program} {fn : Func} {args : List Arg} {out : Out} {rs : List (Nat × Option Nat × Mode)} {mss : List (List (Option Nat))} {C : Ctx} {ι : Nat → Loc} {S : Nat → Nat → Prop} {w : World} {ds : List Deferred}
    (hC : C = ⟨w, Handed ι (argsOb argBase args 0), S, ι, fn.ntmps, ds⟩) (hret : chkRet P fn.results.toList rs = true) (h8 : args.length ≤ 8) (hvl' : True) (hbo : backOK args out.back)
    {ι1 : Nat → Loc} {S1 : Nat → Nat → Prop} {σ1 : Slots} {H1 : LH} {a1 : Act} {w1 : World} (h1 : R C ι1 S1 σ1 H1 a1 w1) (hrw : retW σ1 H1 rs args mss out) :
    ∃ v, (results fn a1.tmps).run P w1 = .ok v w1 ∧ (∃ v' ι' S', Ending.returned v = .returned v' ∧
      AVR ι' (retOb args out) S' w1 (retAV out.res) v' ∧ HR ι' S' (retOb args out) w1 ∧
      (∀ j, j < args.length → ι' (argBase + 64 * j) = ι (argBase + 64 * j) ∨ (args.getD j (.cv .undef)).lent = false) ∧
      (∀ id, Owned ι' (retOb args out) id → Handed ι (argsOb argBase args 0) (ι' id).block ∨ w.heap.size ≤ (ι' id).block) ∧
      (∀ b {o}, S b o → S' b o) ∧ (∀ b {o}, S' b o → S b o ∨ (Handed ι (argsOb argBase args 0) b ∨ w.heap.size ≤ b) ∧ w1.frozen? ⟨b, o, none⟩ = false) ∧
      Fr (Handed ι (argsOb argBase args 0)) w w1) := by
  subst hC
  obtain ⟨vs, us, hk1, hvsl, husl, hrvl, hva1, hrun⟩ := retVals_spec h1 _ _ _ hret hrw
  obtain ⟨ras, m1, V1, H2, hk2, hl1, hral, hq1, hV1⟩ := argsW_spec h1 trivial retBase vs us H1 0 _ husl hva1 (fun i o hi _ => hi) hk1
  obtain ⟨bl, bus, hk3, hbll, hbul, hbv, hblent⟩ := backL_spec h1 (fun i o hi ho => hl1.back hi ho) _ _ _ _ hk2
  obtain ⟨bas, m2, V2, H3, ⟨⟨hre, hbe⟩, hlive⟩, hl2, hbal, hq2, hV2⟩ := argsW_spec h1 trivial argBase bl bus H2 0 _ hbul hbv (fun i o hi ho => hl1.back hi ho) hk3
  have hn1 : bl.length = args.length := hbll
  rw [hbll] at hl2 hq2
  rw [Nat.zero_add] at hl1 hl2
  simp only [Nat.mul_zero, Nat.add_zero] at hl1 hl2
  have hral' : vs.length = ras.length := hral.symm
  rw [hral'] at hl1 hq1
  have hbal' : args.length = bas.length := by rw [hbal, hbll]
  obtain ⟨hsm1, hob1⟩ := args_OB (base := retBase) (by rfl) hl1 hq1
  rw [hbal'] at hl2 hq2
  obtain ⟨hsm2, hob2⟩ := args_OB (base := argBase) (by rfl) hl2 hq2
  have hd : ∀ k o, LH.get (argsOb argBase bas 0) k = some o → LH.get (argsOb retBase ras 0) k = none := fun k o hk => by
    rw [get_argsOb argBase (by rfl) bas 0 k hsm2] at hk
    split at hk
    · rw [get_argsOb retBase (by rfl) ras 0 k hsm1, if_neg]
      rename_i hk2
      unfold argBase at hk2
      unfold retBase
      omega
    · cases hk
  have hob := OB.append hl1 hob1 hob2 hd
  have hret2 : retOb args out = argsOb retBase ras 0 ++ argsOb argBase bas 0 := by
    unfold retOb; rw [← hre, ← hbe]
  rw [← hret2] at hob
  -- both handings, as0 one
  have hlz : Lend0 H1 H3 (m1 ++ m2) := Lend0.append hl1.zero hl2.zero
  have hlen : Lend H1 H3 (m1 ++ m2) 0 (retBase + 64 * ras.length + argBase) := by
    refine ⟨fun p hp => ?_, fun p hp q hq e => ?_, hlz.moved, hlz.inj, hlz.other⟩
    · rcases List.mem_append.1 hp with hp | hp
      · have := hl1.keys p hp; unfold argBase; omega
      · have := hl2.keys p hp
        unfold argBase at this ⊢
        unfold retBase
        omega
    · have apart : ∀ p ∈ m1, ∀ q ∈ m2, p.1 ≠ q.1 := fun p hp q hq => by
        have h1 := hl1.keys p hp
        have h2 := hl2.keys q hq
        unfold argBase at h2
        unfold retBase at h1
        omega
      rcases List.mem_append.1 hp with hp | hp <;> rcases List.mem_append.1 hq with hq | hq
      · exact hl1.uniq p hp q hq e
      · exact absurd e (apart p hp q hq)
      · exact absurd e.symm (apart q hq p hp)
      · exact hl2.uniq p hp q hq e
  have hVV : ∀ i ∈ V1 ++ V2, (∃ e xs, LH.get H1 i = some (.row e xs)) ∧ isLive H3 i := fun i hi => by
    refine ⟨?_, hlive i hi⟩
    rcases List.mem_append.1 hi with hi | hi
    · exact hV1 i hi
    · exact hV2 i hi
  have hHR := lend_HR (V := V1 ++ V2) h1.hr hlen hob hVV
  -- the results' values
  have hq1' : ∀ q, q < ras.length → ArgR ι1 S1 w1 H1 (m1 ++ m2) (V1 ++ V2) (retBase + 64 * (0 + q)) (vs.getD q (.c .undef, .plain)).1 (us.getD q Go.undef) (ras.getD q (.cv .undef)) := fun q hq => (hq1 q hq).more
  have hgetx : ∀ k o, LH.get (argsOb retBase ras 0) k = some o → LH.get (retOb args out) k = some o := fun k o hk => by
    rw [hret2, get_append, hk]
  have hAV := args_AVR (base := retBase) (by rfl) hlen hq1' hgetx
  refine ⟨_, run_results rfl a1.tmps us (by rw [husl, hvsl, hrvl]) hrun, ?_⟩
  refine ⟨_, lendL ι1 (m1 ++ m2), Sv ι1 S1 w1 (V1 ++ V2), rfl, ?_, hHR, fun j hj => ?_, fun id ho => ?_, fun b _ hb => .inl (h1.sub b hb), fun b o hb => ?_, h1.fr⟩
  · -- the value
    have hrl : ras.length = us.length := by rw [husl]; exact hral
    unfold retAV
    have hsize : out.res.length = us.length := by rw [← hrl, hre, List.length_map]
    split
    · rename_i r hres
      rw [hres] at hsize
      cases us with
      | nil => simp at hsize
      | cons x us =>
        cases us with
        | nil =>
          have := hAV 0 (by rw [hrl]; simp)
          rw [hre, hres] at this
          simp only [List.map_cons, List.map_nil, argsAV, List.getD_cons_zero, Nat.mul_zero, Nat.add_zero] at this
          have e2 : (r.arg).av retBase = r.av retBase := by cases r <;> rfl
          rw [e2] at this
          exact this
        | cons y us => simp at hsize
    · rename_i hres
      have ht : tupV us = .tuple us.toArray := by
        cases us with
        | nil => rfl
        | cons x us =>
          cases us with
          | nil =>
            rw [List.length_singleton] at hsize
            obtain ⟨r, hr⟩ := List.length_eq_one_iff.1 hsize
            exact absurd hr (hres r)
          | cons y us => rfl
      rw [ht]
      refine .tup _ _ (by rw [argsAV_len, List.length_map]; simpa using hsize.symm) (fun q hq => ?_)
      rw [argsAV_len] at hq
      have := hAV q (by rw [hre]; exact hq)
      rw [← hre]
      have e3 : us.toArray.getD q Go.undef = us.getD q Go.undef := by simp [List.getD_eq_getElem?_getD]
      rw [e3]
      exact this
  · -- where what is given back lies
    by_cases hlent : (args.getD j (.cv .undef)).lent = true
    · left
      have hbk := hblent j hj hlent
      rw [Nat.zero_add] at hbk
      have hr2 := hq2 j (by omega)
      rw [Nat.zero_add] at hr2
      have hmem : (argBase + 64 * j, some (argBase + 64 * j)) ∈ m2 := by
        rcases hbk with ⟨ms, e1⟩ | ⟨n, e1⟩
        · rw [e1] at hr2
          have hbq := (backArgs_spec args out.back hbo).2 j hj
          rw [← hbe] at hbq
          cases hx : bas.getD j (.cv .undef) with
          | obj ocs =>
            rw [hx] at hr2
            obtain ⟨i, cs, a1, a2, ⟨_, a3⟩, _⟩ := hr2
            simp only [AV.ref.injEq] at a3
            rw [← a3.1] at a1
            exact a1
          | mutr e xs =>
            rw [hx] at hr2
            obtain ⟨i, a1, a2, a3, a4⟩ := hr2
            cases a4
          | _ =>
            rw [hx] at hbq
            cases hy : args.getD j (.cv .undef) <;> rw [hy] at hbq hlent <;> first | exact hbq.elim | cases hlent
        · rw [e1] at hr2
          have hbq := (backArgs_spec args out.back hbo).2 j hj
          rw [← hbe] at hbq
          cases hx : bas.getD j (.cv .undef) with
          | obj ocs =>
            rw [hx] at hr2
            obtain ⟨i, cs, a1, a2, ⟨_, a3⟩, _⟩ := hr2
            cases a3
          | mutr e xs =>
            rw [hx] at hr2
            obtain ⟨i, a1, a2, a3, a4⟩ := hr2
            simp only [AV.osl.injEq] at a4
            rw [← a4.1] at a1
            exact a1
          | _ =>
            rw [hx] at hbq
            cases hy : args.getD j (.cv .undef) <;> rw [hy] at hbq hlent <;> first | exact hbq.elim | cases hlent
      rw [lendL_some hlen.uniq (List.mem_append_right _ hmem)]
      -- what was lent lies where it lay
      have hown := hlen.moved _ _ (List.mem_append_right _ hmem)
      cases hg : LH.get H1 (argBase + 64 * j) with
      | none => rw [hg] at hown; exact hown.1.elim
      | some ob =>
        rw [hg] at hown
        refine h1.loc _ _ hg ?_ (by omega)
        cases ob <;> first | trivial | exact hown.1.elim
    · right; simpa using hlent
  · obtain ⟨i, a1, a2, a3⟩ := lend_owned hlen hob ho
    rw [a3]; exact h1.own i a2
  · rcases hb with hb | ⟨i, hi, ⟨hn, rfl⟩, hfz⟩
    · exact h1.sup b hb
    · obtain ⟨⟨e, xs, hg⟩, _⟩ := hVV i hi
      exact .inr ⟨h1.own i (by unfold Owned; rw [hg]; exact hn), hfz⟩
theorem start_R {args : List Arg} {fn : Func} {ι : Nat → Loc} {S : Nat → Nat → Prop} {w : World} {vals : List Value} (hn : args.length ≤ fn.ntmps) (hvl : vals.length = args.length)
    (hva : ∀ j, j < args.length → AVR ι (argsOb argBase args 0) S w ((argsAV argBase args 0).getD j (.c .undef)) (vals.getD j Go.undef)) (hhr : HR ι S (argsOb argBase args 0) w) :
    R ⟨w, Handed ι (argsOb argBase args 0), S, ι, fn.ntmps, []⟩ ι S (slotsOf (argsAV argBase args 0) 0) (argsOb argBase args 0) { tmps := vals.toArray ++ Array.replicate (fn.ntmps - vals.toArray.size) undef, defers := [] } w := by
  refine ⟨Fr.refl _ _, hhr, fun t => ?_, fun id ho => .inl ⟨id, ho, rfl⟩, fun b _ hb => .inl hb, fun b _ hb => hb, fun id ob hg _ hge => rfl, ?_, rfl⟩
  · rw [slotsOf_get, argsAV_len]
    by_cases ht : 0 ≤ t ∧ t < 0 + args.length
    · rw [if_pos ht, Nat.sub_zero]
      have := hva t (by omega)
      have e : (vals.toArray ++ Array.replicate (fn.ntmps - vals.toArray.size) undef).getD t undef = vals.getD t undef := by
        have hlt : t < vals.length := by omega
        simp [Array.getElem?_append_left, hlt, List.getD_eq_getElem?_getD]
      rw [e]; exact this
    · rw [if_neg ht]; exact AVR.undef _
  · show (vals.toArray ++ Array.replicate (fn.ntmps - vals.toArray.size) undef).size = fn.ntmps
    simp; omega
theorem CW_of {P : Program} {f : FuncId} {fn : Func} {c : Code} {ic : IC} {args : List Arg} {out : Out} {rs : List (Nat × Option Nat × Mode)} {mss : List (List (Option Nat))}
    (hf : P.funcs[f]? = some fn) (hb : fn.body = some c) (hisf : isFn P f = true) (hret : chkRet P fn.results.toList rs = true) (hn : args.length ≤ fn.ntmps) (h8 : args.length ≤ 8)
    (hchk : chkC P fn.ntmps ic c = true) (hbo : backOK args out.back)
    (hw : wpC P ic (fun e σ H => match e with | .exit _ => False | .pan _ _ _ => False | _ => retW σ H rs args mss out) (slotsOf (argsAV argBase args 0) 0) (argsOb argBase args 0)) : CW P f args out := by
  refine ⟨hisf, hbo, fun ι S w vals hvl hva hhr => ?_⟩
  refine calls_of_wp hf hb ?_
  let C : Ctx := ⟨w, Handed ι (argsOb argBase args 0), S, ι, fn.ntmps, []⟩
  have hR := start_R (fn := fn) hn hvl hva hhr
  refine code_sound (C := C) ic c hchk hR hw (fun e ι1 S1 σ1 H1 a1 w1 hq h0 => ?_)
  have fin : ∀ h1 : R C ι1 S1 σ1 H1 a1 w1, retW σ1 H1 rs args mss out → a1.defers = [] ∧ ∃ v, (results fn a1.tmps).run P w1 = .ok v w1 ∧ (∃ v' ι' S', Ending.returned v = .returned v' ∧
      AVR ι' (retOb args out) S' w1 (retAV out.res) v' ∧ HR ι' S' (retOb args out) w1 ∧
      (∀ j, j < args.length → ι' (argBase + 64 * j) = ι (argBase + 64 * j) ∨ (args.getD j (.cv .undef)).lent = false) ∧
      (∀ id, Owned ι' (retOb args out) id → Handed ι (argsOb argBase args 0) (ι' id).block ∨ w.heap.size ≤ (ι' id).block) ∧
      (∀ b {o}, S b o → S' b o) ∧ (∀ b {o}, S' b o → S b o ∨ (Handed ι (argsOb argBase args 0) b ∨ w.heap.size ≤ b) ∧ w1.frozen? ⟨b, o, none⟩ = false) ∧
      Fr (Handed ι (argsOb argBase args 0)) w w1) := fun h1 hrw => ⟨h1.defs, fin_sound rfl hret h8 trivial hbo h1 hrw⟩
  cases e with
  | norm => exact fin h0 hq
  | ret => exact fin h0 hq
  | exit i => exact hq.elim
  | pan t k n => exact hq.elim
end Go.Proofs.Ytcpdnpaedkcebaa.V
