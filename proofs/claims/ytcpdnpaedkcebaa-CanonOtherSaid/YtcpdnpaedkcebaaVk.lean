/- A small calculus over the model, eleven: calls. -/
import Derived.Test.YtcpdnpaedkcebaaVj
namespace Go.Proofs.Ytcpdnpaedkcebaa.V
open Go Go.RowKit
set_option linter.unusedVariables false
set_option linter.unusedSimpArgs false

def isSS : Option (Option Nat) → Bool
  | some (some _) => true
  | _ => false
theorem isSS_spec {o : Option (Option Nat)} (h : isSS o = true) : ∃ i, o = some (some i) := by
  match o, h with
  | some (some i), _ => exact ⟨i, rfl⟩

def backTop (u j : Nat) : Arg → Option LObj
  | .obj b => some (.obj (cellsAV (64 * (u + 1 + j)) b 0))
  | .mutr e xs => some (.row e xs)
  | _ => none

theorem get_impOb (u : Nat) : ∀ (rs : List OC) (j id : Nat), j + rs.length ≤ 64 → LH.get (impOb u rs j) id = if 64 * u + j ≤ id ∧ id < 64 * u + j + rs.length then (rs.getD (id - (64 * u + j)) (.cv .undef)).row else none
  | [], j, id, _ => by rw [if_neg (by simp)]; rfl
  | r :: rs, j, id, h => by
    simp only [impOb, get_append, get_ocOb]
    rw [get_impOb u rs (j + 1) id (by simp at h; omega)]
    by_cases e : id = 64 * u + j
    · subst e
      have e1 : (if 64 * u + (j + 1) ≤ 64 * u + j ∧ 64 * u + j < 64 * u + (j + 1) + rs.length then (rs.getD (64 * u + j - (64 * u + (j + 1))) (.cv .undef)).row else none) = none := if_neg (by omega)
      have e2 : (if 64 * u + j ≤ 64 * u + j ∧ 64 * u + j < 64 * u + j + (r :: rs).length then ((r :: rs).getD (64 * u + j - (64 * u + j)) (.cv .undef)).row else none) = r.row := by
        rw [if_pos (by simp), Nat.sub_self, List.getD_cons_zero]
      rw [e1, e2, if_pos rfl]
      cases r.row <;> rfl
    · rw [if_neg e]
      simp only
      by_cases h2 : 64 * u + (j + 1) ≤ id ∧ id < 64 * u + (j + 1) + rs.length
      · rw [if_pos h2, if_pos (by simp; omega)]
        have : id - (64 * u + j) = (id - (64 * u + (j + 1))) + 1 := by omega
        rw [this, List.getD_cons_succ]
      · rw [if_neg h2, if_neg (by simp; omega)]

theorem get_deadOf : ∀ (m : List (Nat × Option Nat)) (id : Nat), ((∃ k, (k, some id) ∈ m) ∧ LH.get (deadOf m) id = some .dead) ∨ ((¬ ∃ k, (k, some id) ∈ m) ∧ LH.get (deadOf m) id = none)
  | [], id => .inr ⟨fun ⟨k, h⟩ => (by cases h), rfl⟩
  | (k, none) :: m, id => by
    rcases get_deadOf m id with ⟨⟨k', hk⟩, h⟩ | ⟨hn, h⟩
    · exact .inl ⟨⟨k', List.mem_cons_of_mem _ hk⟩, h⟩
    · refine .inr ⟨fun ⟨k', hk⟩ => ?_, h⟩
      rcases List.mem_cons.1 hk with hk | hk
      · cases hk
      · exact hn ⟨k', hk⟩
  | (k, some i) :: m, id => by
    simp only [deadOf, LH.get]
    by_cases e : i = id
    · subst e; exact .inl ⟨⟨k, List.mem_cons_self⟩, by rw [if_pos rfl]⟩
    · rw [if_neg e]
      rcases get_deadOf m id with ⟨⟨k', hk⟩, h⟩ | ⟨hn, h⟩
      · exact .inl ⟨⟨k', List.mem_cons_of_mem _ hk⟩, h⟩
      · refine .inr ⟨fun ⟨k', hk⟩ => ?_, h⟩
        rcases List.mem_cons.1 hk with hk | hk
        · cases hk; exact e rfl
        · exact hn ⟨k', hk⟩

/-- What is given back, looked up. -/
theorem get_backW (u : Nat) (m : List (Nat × Option Nat)) (hout : ∀ k i, mget m k = some (some i) → i / 64 < u ∨ u + 9 ≤ i / 64) :
    ∀ (B : List Arg) (j0 id : Nat), (∀ ar ∈ B, ar.small) → j0 + B.length ≤ 8 →
    (u ≤ id / 64 ∧ id / 64 < u + 9 → LH.get (backW u m B j0) id = if u + 1 + j0 ≤ id / 64 ∧ id / 64 < u + 1 + j0 + B.length ∧ id % 64 ≠ 0 ∧ isSS (mget m (argBase + 64 * (id / 64 - u - 1))) = true then
        (B.getD (id / 64 - u - 1 - j0) (.cv .undef)).sub (id % 64 - 1) else none) ∧
    (¬ (u ≤ id / 64 ∧ id / 64 < u + 9) → (∃ j, j < B.length ∧ mget m (argBase + 64 * (j0 + j)) = some (some id) ∧ (B.getD j (.cv .undef)).lent = true ∧ LH.get (backW u m B j0) id = backTop u (j0 + j) (B.getD j (.cv .undef))) ∨
      ((∀ j, j < B.length → mget m (argBase + 64 * (j0 + j)) = some (some id) → (B.getD j (.cv .undef)).lent = false) ∧ LH.get (backW u m B j0) id = none)) := by
  intro B
  induction B with
  | nil =>
    intro j0 id _ _
    exact ⟨fun _ => by rw [if_neg (by simp; omega)]; rfl, fun _ => .inr ⟨fun j hj => by simp at hj, rfl⟩⟩
  | cons ar B ih =>
    intro j0 id hs hl
    obtain ⟨ihN, ihO⟩ := ih (j0 + 1) id (fun x hx => hs x (List.mem_cons_of_mem _ hx)) (by simp at hl; omega)
    have har := hs ar List.mem_cons_self
    -- the tail's words, one place on
    have tailN : u ≤ id / 64 ∧ id / 64 < u + 9 → id / 64 ≠ u + 1 + j0 → LH.get (backW u m B (j0 + 1)) id = if u + 1 + j0 ≤ id / 64 ∧ id / 64 < u + 1 + j0 + (ar :: B).length ∧ id % 64 ≠ 0 ∧ isSS (mget m (argBase + 64 * (id / 64 - u - 1))) = true then
        ((ar :: B).getD (id / 64 - u - 1 - j0) (.cv .undef)).sub (id % 64 - 1) else none := by
      intro h1 h2
      rw [ihN h1]
      by_cases hc : u + 1 + (j0 + 1) ≤ id / 64 ∧ id / 64 < u + 1 + (j0 + 1) + B.length ∧ id % 64 ≠ 0 ∧ isSS (mget m (argBase + 64 * (id / 64 - u - 1))) = true
      · rw [if_pos hc, if_pos ⟨by omega, by simp; omega, hc.2.2⟩]
        have : id / 64 - u - 1 - j0 = (id / 64 - u - 1 - (j0 + 1)) + 1 := by omega
        rw [this, List.getD_cons_succ]
      · rw [if_neg hc, if_neg ?_]
        rintro ⟨a1, a2, a3⟩
        exact hc ⟨by omega, by simp at a2; omega, a3⟩
    have tailN0 : u ≤ id / 64 ∧ id / 64 < u + 9 → id / 64 = u + 1 + j0 → LH.get (backW u m B (j0 + 1)) id = none := by
      intro h1 h2
      rw [ihN h1, if_neg (by omega)]
    have tailO : ¬ (u ≤ id / 64 ∧ id / 64 < u + 9) → (mget m (argBase + 64 * j0) = some (some id) → ar.lent = false) →
      (∃ j, j < (ar :: B).length ∧ mget m (argBase + 64 * (j0 + j)) = some (some id) ∧ ((ar :: B).getD j (.cv .undef)).lent = true ∧ LH.get (backW u m B (j0 + 1)) id = backTop u (j0 + j) ((ar :: B).getD j (.cv .undef))) ∨
      ((∀ j, j < (ar :: B).length → mget m (argBase + 64 * (j0 + j)) = some (some id) → ((ar :: B).getD j (.cv .undef)).lent = false) ∧ LH.get (backW u m B (j0 + 1)) id = none) := by
      intro h1 h2
      rcases ihO h1 with ⟨j, hj, hm, hle, hg⟩ | ⟨hn, hg⟩
      · refine .inl ⟨j + 1, by simp; omega, ?_, by simpa using hle, ?_⟩
        · rw [← hm]; congr 2; omega
        · rw [hg, List.getD_cons_succ]; congr 1; omega
      · refine .inr ⟨fun j hj hm => ?_, hg⟩
        cases j with
        | zero => exact h2 hm
        | succ j =>
          rw [List.getD_cons_succ]
          refine hn j (by simpa using hj) ?_
          rw [← hm]; congr 2; omega
    have other : ar.lent = false ∨ (∀ i, mget m (argBase + 64 * j0) ≠ some (some i)) → backW u m (ar :: B) j0 = backW u m B (j0 + 1) := by
      intro h
      cases ar with
      | obj b =>
        rcases h with h | h
        · cases h
        · simp only [backW]
      | mutr e xs =>
        rcases h with h | h
        · cases h
        · simp only [backW]
      | _ => rfl
    by_cases hcase : ar.lent = true ∧ ∃ i, mget m (argBase + 64 * j0) = some (some i)
    · obtain ⟨hlent, i, hi⟩ := hcase
      have hio := hout _ _ hi
      cases ar with
      | cv v => cases hlent
      | own e xs => cases hlent
      | mutr e xs =>
        have hb : backW u m (.mutr e xs :: B) j0 = (i, .row e xs) :: backW u m B (j0 + 1) := by simp only [backW, hi]
        rw [hb]
        simp only [LH.get]
        refine ⟨fun h1 => ?_, fun h1 => ?_⟩
        · rw [if_neg (by omega)]
          by_cases h2 : id / 64 = u + 1 + j0
          · rw [tailN0 h1 h2]
            split
            · have : id / 64 - u - 1 - j0 = 0 := by omega
              rw [this]; rfl
            · rfl
          · exact tailN h1 h2
        · by_cases e1 : i = id
          · subst e1
            exact .inl ⟨0, by simp, hi, rfl, by rw [if_pos rfl]; rfl⟩
          · rw [if_neg e1]
            exact tailO h1 (fun h => by rw [hi] at h; simp at h; exact absurd h e1)
      | obj b =>
        have hb : backW u m (.obj b :: B) j0 = (i, .obj (cellsAV (64 * (u + 1 + j0)) b 0)) :: (cellsOb (64 * (u + 1 + j0)) b 0 ++ backW u m B (j0 + 1)) := by simp only [backW, hi]
        rw [hb]
        simp only [LH.get, get_append, get_cellsOb, Nat.add_zero]
        have hbl : b.length ≤ 15 := har
        have hl' : j0 + 1 ≤ 8 := by simp at hl; omega
        refine ⟨fun h1 => ?_, fun h1 => ?_⟩
        · rw [if_neg (by omega)]
          by_cases h2 : id / 64 = u + 1 + j0
          · rw [tailN0 h1 h2]
            have hz : id / 64 - u - 1 - j0 = 0 := by omega
            have hj : id / 64 - u - 1 = j0 := by omega
            rw [hz, List.getD_cons_zero, hj]
            by_cases h3 : id % 64 ≠ 0
            · rw [if_pos (show u + 1 + j0 ≤ id / 64 ∧ id / 64 < u + 1 + j0 + (Arg.obj b :: B).length ∧ id % 64 ≠ 0 ∧ isSS (mget m (argBase + 64 * j0)) = true from ⟨by omega, by simp; omega, h3, by rw [hi]; rfl⟩)]
              simp only [Arg.sub]
              have hp : id - (64 * (u + 1 + j0) + 1) = id % 64 - 1 := by omega
              rw [hp]
              by_cases h4 : id % 64 - 1 < b.length
              · rw [if_pos (by omega), if_pos h4]
                cases (b.getD (id % 64 - 1) (.cv .undef)).row <;> rfl
              · rw [if_neg (by omega), if_neg h4]
            · rw [if_neg (by omega), if_neg (by omega)]
          · rw [if_neg (by omega)]
            exact tailN h1 h2
        · by_cases e1 : i = id
          · subst e1
            exact .inl ⟨0, by simp, hi, rfl, by rw [if_pos rfl]; rfl⟩
          · rw [if_neg e1, if_neg (by omega)]
            exact tailO h1 (fun h => by rw [hi] at h; simp at h; exact absurd h e1)
    · have hne : ar.lent = false ∨ (∀ i, mget m (argBase + 64 * j0) ≠ some (some i)) := by
        by_cases hl2 : ar.lent = true
        · exact .inr fun i hi => hcase ⟨hl2, i, hi⟩
        · exact .inl (by simpa using hl2)
      rw [other hne]
      refine ⟨fun h1 => ?_, fun h1 => tailO h1 (fun h => ?_)⟩
      · by_cases h2 : id / 64 = u + 1 + j0
        · rw [tailN0 h1 h2]
          have hz : id / 64 - u - 1 - j0 = 0 := by omega
          have hj : id / 64 - u - 1 = j0 := by omega
          rw [hz, List.getD_cons_zero, hj]
          split
          · rename_i hc
            rcases hne with hne | hne
            · cases ar <;> first | rfl | cases hne
            · obtain ⟨i, hi⟩ := isSS_spec hc.2.2.2
              exact absurd hi (hne i)
          · rfl
        · exact tailN h1 h2
      · rcases hne with hne | hne
        · exact hne
        · exact absurd h (hne id)

theorem backArgs_spec : ∀ (as : List Arg) (bs : List (List OC)), backOK as bs → (backArgs as bs).length = as.length ∧ ∀ q, q < as.length → match as.getD q (.cv .undef), (backArgs as bs).getD q (.cv .undef) with
    | .obj cs, .obj b => b.length = cs.length ∧ b ∈ bs
    | .mutr e xs, .mutr e' ys => e' = e ∧ ys.length = xs.length ∧ [.own e' ys] ∈ bs
    | .cv _, .cv _ => True
    | .own _ _, .cv _ => True
    | _, _ => False
  | [], [], _ => ⟨rfl, fun q hq => by simp at hq⟩
  | [], _ :: _, h => by simp [backOK] at h
  | .cv v :: as, bs, h => by
    obtain ⟨h1, h2⟩ := backArgs_spec as bs h
    refine ⟨by simp [backArgs, h1], fun q hq => ?_⟩
    cases q with
    | zero => trivial
    | succ q => exact h2 q (by simpa using hq)
  | .own e xs :: as, bs, h => by
    obtain ⟨h1, h2⟩ := backArgs_spec as bs h
    refine ⟨by simp [backArgs, h1], fun q hq => ?_⟩
    cases q with
    | zero => trivial
    | succ q => exact h2 q (by simpa using hq)
  | .obj cs :: as, [], h => by simp [backOK] at h
  | .obj cs :: as, b :: bs, h => by
    obtain ⟨h0, h⟩ := h
    obtain ⟨h1, h2⟩ := backArgs_spec as bs h
    refine ⟨by simp [backArgs, h1], fun q hq => ?_⟩
    cases q with
    | zero => exact ⟨h0, List.mem_cons_self⟩
    | succ q =>
      have := h2 q (by simpa using hq)
      simp only [backArgs, List.getD_cons_succ]
      revert this
      split <;> simp_all
  | .mutr e xs :: as, [], h => by simp [backOK] at h
  | .mutr e xs :: as, [] :: bs, h => by simp [backOK] at h
  | .mutr e xs :: as, [.cv _] :: bs, h => by simp [backOK] at h
  | .mutr e xs :: as, (_ :: _ :: _) :: bs, h => by simp [backOK] at h
  | .mutr e xs :: as, [.own e' ys] :: bs, h => by
    obtain ⟨h0, h0', h⟩ := h
    obtain ⟨h1, h2⟩ := backArgs_spec as bs h
    refine ⟨by simp [backArgs, h1], fun q hq => ?_⟩
    cases q with
    | zero => exact ⟨h0, h0', List.mem_cons_self⟩
    | succ q =>
      have := h2 q (by simpa using hq)
      simp only [backArgs, List.getD_cons_succ]
      revert this
      split <;> simp_all

theorem RowR.scalar {L : Loc} {S S' : Nat → Prop} {w : World} {e : Nat} {xs : List CV} (h : RowR L S w e xs) (hs : ∀ x ∈ xs, x.scalar = true) : RowR L S' w e xs := by
  unfold RowR at h ⊢
  split
  · rename_i hn; rw [if_pos hn] at h; exact h
  · rename_i hn
    rw [if_neg hn] at h
    obtain ⟨h1, h2, h3, h4⟩ := h
    refine ⟨h1, h2, h3, fun i j hi hj => ?_⟩
    obtain ⟨u, hu, hv⟩ := h4 i j hi hj
    refine ⟨u, hu, hv.scalar ?_⟩
    have hx := hs _ (getD_mem hi)
    have hw := h2 _ (getD_mem hi)
    have hc : (xs.getD i .undef).cells = [xs.getD i .undef] := by
      generalize xs.getD i .undef = X at hx
      cases X <;> first | rfl | cases hx
    have hw1 := hw.1
    rw [hc] at hw1 ⊢
    have : j = 0 := by simp at hw1; omega
    subst this
    exact hx

section
variable {P : Program} {C : Ctx} {ι : Nat → Loc} {S : Nat → Prop} {σ : Slots} {H : LH} {a : Act} {w : World} {o : Oper} {g : Prop} {u : Nat}

theorem freshC_out (hf : freshC H u) {i : Nat} {ob : LObj} (h : LH.get H i = some ob) : i / 64 < u ∨ u + 9 ≤ i / 64 := hf.2 _ (mem_of_get h)

/-- THE LAW of what comes back from a call. -/
theorem import_R (h : R C ι S σ H a w) {H' : LH} {m : List (Nat × Option Nat)} {V : List Nat} {args : List Arg} {us : List Value} {vs : Nat → AV} {out : Out}
    (hl : Lend H H' m argBase (argBase + 64 * args.length)) (hlen : args.length ≤ 8)
    (hq : ∀ q, q < args.length → ArgR ι S w H m V (argBase + 64 * (0 + q)) (vs q) (us.getD q Go.undef) (args.getD q (.cv .undef)))
    (hV : ∀ i ∈ V, (∃ e xs, LH.get H i = some (.row e xs)) ∧ isLive H' i) (hbo : backOK args out.back)
    (hsc : V = [] ∨ (∀ r ∈ out.res, r.scalar) ∧ ∀ b ∈ out.back, ∀ r ∈ b, r.scalar) (hf : freshC H u) (hrl : out.res.length ≤ 60) (hbl : ∀ b ∈ out.back, b.length ≤ 15)
    {v : Value} {ι' : Nat → Loc} {S' : Nat → Prop} {w' : World}
    (hv : AVR ι' (retOb args out) S' w' (retAV out.res) v) (hr : HR ι' S' (retOb args out) w')
    (hloc : ∀ j, j < args.length → ι' (argBase + 64 * j) = lendL ι m (argBase + 64 * j) ∨ (args.getD j (.cv .undef)).lent = false)
    (hown : ∀ id, Owned ι' (retOb args out) id → Handed (lendL ι m) (argsOb argBase args 0) (ι' id).block ∨ w.heap.size ≤ (ι' id).block)
    (hsub : ∀ b, Sv ι S V b → S' b) (hsup : ∀ b, S' b → Sv ι S V b ∨ Handed (lendL ι m) (argsOb argBase args 0) b ∨ w.heap.size ≤ b)
    (hfr : Fr (Handed (lendL ι m) (argsOb argBase args 0)) w w') :
    ∃ ι2 S2, R C ι2 S2 σ (LH.sets H (backW u m (backArgs args out.back) 0 ++ impOb u out.res 0 ++ deadOf m)) a w' ∧
      AVR ι2 (LH.sets H (backW u m (backArgs args out.back) 0 ++ impOb u out.res 0 ++ deadOf m)) S2 w' (impRes u out.res) v := by
  have hb0 : argBase % 64 = 0 := rfl
  obtain ⟨hsm, hob⟩ := args_OB hb0 hl hq
  obtain ⟨hBl, hB⟩ := backArgs_spec args out.back hbo
  generalize hBd : backArgs args out.back = B at *
  generalize hws : backW u m B 0 ++ impOb u out.res 0 ++ deadOf m = ws
  -- the given back are small
  have hBsm : ∀ ar ∈ B, ar.small := by
    intro ar har
    obtain ⟨q, hq1, rfl⟩ := List.getElem_of_mem har
    have hq2 : q < args.length := by omega
    have := hB q hq2
    have e : B.getD q (.cv .undef) = B[q] := by simp [List.getD_eq_getElem?_getD, hq1]
    rw [e] at this
    cases hx : B[q] with
    | obj cs =>
      rw [hx] at this
      cases hy : args.getD q (.cv .undef) <;> rw [hy] at this <;> first | exact this.elim | exact hbl _ this.2
    | _ => trivial
  have hmH : ∀ k i, (k, some i) ∈ m → ∃ ob, LH.get H i = some ob ∧ isOwn (some ob) := fun k i hk => by
    have := (hl.moved k i hk).1
    cases hg : LH.get H i with
    | none => rw [hg] at this; exact this.elim
    | some ob => rw [hg] at this; exact ⟨ob, rfl, this⟩
  have hout : ∀ k i, mget m k = some (some i) → i / 64 < u ∨ u + 9 ≤ i / 64 := fun k i hk => by
    obtain ⟨ob, hg, _⟩ := hmH k i (mem_of_mget hk)
    exact freshC_out hf hg
  have hback := fun id => get_backW u m hout B 0 id hBsm (by omega)
  -- the lookup
  have hget : ∀ id, LH.get (LH.sets H ws) id = match LH.get (backW u m B 0) id with
      | some ob => some ob
      | none => match LH.get (impOb u out.res 0) id with
        | some ob => some ob
        | none => match LH.get (deadOf m) id with
          | some ob => some ob
          | none => LH.get H id := fun id => by
    rw [LH.get_sets, ← hws, get_append, get_append]
    cases LH.get (backW u m B 0) id with
    | some ob => rfl
    | none =>
      simp only
      cases LH.get (impOb u out.res 0) id <;> rfl
  have hmout : ∀ id, (∃ k, (k, some id) ∈ m) → ¬ (u ≤ id / 64 ∧ id / 64 < u + 9) := fun id ⟨k, hk⟩ hn => by
    obtain ⟨ob, hg, _⟩ := hmH k id hk
    have := freshC_out hf hg
    omega
  have hHout : ∀ id, (u ≤ id / 64 ∧ id / 64 < u + 9) → LH.get H id = none := fun id hn => by
    cases hg : LH.get H id with
    | none => rfl
    | some ob => have := freshC_out hf hg; omega
  have himp : ∀ id, LH.get (impOb u out.res 0) id = if id / 64 = u ∧ id % 64 < out.res.length then (out.res.getD (id % 64) (.cv .undef)).row else none := fun id => by
    rw [get_impOb u out.res 0 id (by omega)]
    by_cases hc : id / 64 = u ∧ id % 64 < out.res.length
    · rw [if_pos hc, if_pos (by omega)]
      congr 2; omega
    · rw [if_neg hc, if_neg (by omega)]
  have hR : ∀ id, id / 64 = u → LH.get (LH.sets H ws) id = if id % 64 < out.res.length then (out.res.getD (id % 64) (.cv .undef)).row else none := fun id hu => by
    rw [hget, (hback id).1 ⟨by omega, by omega⟩, if_neg (by omega), himp]
    simp only
    by_cases hc : id % 64 < out.res.length
    · rw [if_pos ⟨hu, hc⟩, if_pos hc]
      cases (out.res.getD (id % 64) (.cv .undef)).row with
      | some ob => rfl
      | none =>
        simp only
        rcases get_deadOf m id with ⟨hd, _⟩ | ⟨_, hd⟩
        · exact absurd ⟨by omega, by omega⟩ (hmout id hd)
        · rw [hd]; exact hHout id ⟨by omega, by omega⟩
    · rw [if_neg (by omega), if_neg hc]
      simp only
      rcases get_deadOf m id with ⟨hd, _⟩ | ⟨_, hd⟩
      · exact absurd ⟨by omega, by omega⟩ (hmout id hd)
      · rw [hd]; exact hHout id ⟨by omega, by omega⟩
  have hS : ∀ id, u < id / 64 → id / 64 < u + 9 → LH.get (LH.sets H ws) id = if id / 64 < u + 1 + B.length ∧ id % 64 ≠ 0 ∧ isSS (mget m (argBase + 64 * (id / 64 - u - 1))) = true then (B.getD (id / 64 - u - 1) (.cv .undef)).sub (id % 64 - 1) else none := fun id h1 h2 => by
    have rest : (match LH.get (impOb u out.res 0) id with
        | some ob => some ob
        | none => match LH.get (deadOf m) id with
          | some ob => some ob
          | none => LH.get H id) = none := by
      rw [himp, if_neg (by omega)]
      simp only
      rcases get_deadOf m id with ⟨hd, _⟩ | ⟨_, hd⟩
      · exact absurd ⟨by omega, by omega⟩ (hmout id hd)
      · rw [hd]; exact hHout id ⟨by omega, by omega⟩
    rw [hget, (hback id).1 ⟨by omega, by omega⟩, rest]
    by_cases hc : id / 64 < u + 1 + B.length ∧ id % 64 ≠ 0 ∧ isSS (mget m (argBase + 64 * (id / 64 - u - 1))) = true
    · rw [if_pos hc, if_pos ⟨by omega, by omega, hc.2⟩, Nat.sub_zero]
      cases (B.getD (id / 64 - u - 1) (.cv .undef)).sub (id % 64 - 1) <;> rfl
    · rw [if_neg hc, if_neg (fun hh => hc ⟨by omega, hh.2.2⟩)]
  have hO : ∀ id, ¬ (u ≤ id / 64 ∧ id / 64 < u + 9) →
      (∃ j, j < B.length ∧ mget m (argBase + 64 * j) = some (some id) ∧ (B.getD j (.cv .undef)).lent = true ∧ LH.get (LH.sets H ws) id = backTop u j (B.getD j (.cv .undef))) ∨
      ((∃ k, (k, some id) ∈ m) ∧ LH.get (LH.sets H ws) id = some .dead) ∨ ((¬ ∃ k, (k, some id) ∈ m) ∧ LH.get (LH.sets H ws) id = LH.get H id) := fun id hn => by
    rcases (hback id).2 hn with ⟨j, hj, hm, hle, hg⟩ | ⟨_, hg⟩
    · rw [Nat.zero_add] at hm hg
      refine .inl ⟨j, hj, hm, hle, ?_⟩
      rw [hget, hg]
      cases hx : B.getD j (.cv .undef) <;> rw [hx] at hle <;> first | rfl | cases hle
    · rw [hget, hg, himp, if_neg (by omega)]
      simp only
      rcases get_deadOf m id with ⟨hd, hg2⟩ | ⟨hd, hg2⟩
      · rw [hg2]; exact .inr (.inl ⟨hd, rfl⟩)
      · rw [hg2]; exact .inr (.inr ⟨hd, rfl⟩)
  -- the lookup in what came back
  have hresm : ∀ ar ∈ out.res.map OC.arg, ar.small := fun ar har => by
    obtain ⟨r, _, rfl⟩ := List.mem_map.1 har
    cases r <;> trivial
  have hrR : ∀ q, q < out.res.length → LH.get (retOb args out) (retBase + 64 * q) = (out.res.getD q (.cv .undef)).row := fun q hq1 => by
    unfold retOb
    rw [get_append, get_top (by rfl) hresm (by simpa using hq1), hBd]
    have e : (out.res.map OC.arg).getD q (.cv .undef) = (out.res.getD q (.cv .undef)).arg := by
      simp [List.getD_eq_getElem?_getD, hq1]
    rw [e]
    cases out.res.getD q (.cv .undef) with
    | own e xs => rfl
    | cv x =>
      show LH.get (argsOb argBase B 0) _ = none
      rw [get_argsOb argBase hb0 B 0 _ hBsm, if_neg (by unfold argBase retBase; omega)]
  have hrA : ∀ k, k < retBase → LH.get (retOb args out) k = LH.get (argsOb argBase B 0) k := fun k hk => by
    unfold retOb
    rw [get_append, get_argsOb retBase (by rfl) _ 0 _ hresm, if_neg (by omega), hBd]
  have hrT : ∀ j, j < B.length → LH.get (retOb args out) (argBase + 64 * j) = (B.getD j (.cv .undef)).top (argBase + 64 * j) := fun j hj => by
    rw [hrA _ (by unfold argBase retBase; omega), get_top hb0 hBsm hj]
  have hrS : ∀ j, j < B.length → ∀ p, p < 63 → LH.get (retOb args out) (argBase + 64 * j + 1 + p) = (B.getD j (.cv .undef)).sub p := fun j hj p hp => by
    rw [hrA _ (by unfold argBase retBase; omega), get_argsOb argBase hb0 B 0 _ hBsm, if_pos (by omega)]
    have e1 : (argBase + 64 * j + 1 + p - argBase) / 64 = j := by omega
    rw [e1, Nat.sub_zero, get_argOb, if_neg (by omega), if_pos (by omega)]
    congr 1; omega
  obtain ⟨ι2, hι2⟩ : ∃ f : Nat → Loc, f = fun id => if u ≤ id / 64 ∧ id / 64 < u + 9 then (if id / 64 = u then ι' (retBase + 64 * (id % 64)) else ι' (argBase + 64 * (id / 64 - u - 1) + id % 64)) else ι id := ⟨_, rfl⟩
  obtain ⟨S2, hS2⟩ : ∃ f : Nat → Prop, f = fun b => S b ∨ (S' b ∧ ¬ ∃ i ∈ V, (ι i).isnil = false ∧ b = (ι i).block) := ⟨_, rfl⟩
  obtain ⟨H2, hH2⟩ : ∃ f : LH, f = LH.sets H ws := ⟨_, rfl⟩
  rw [← hH2] at hget hR hS hO ⊢
  have i2R : ∀ id, id / 64 = u → ι2 id = ι' (retBase + 64 * (id % 64)) := fun id h => by rw [hι2]; simp only; rw [if_pos (by omega), if_pos h]
  have i2S : ∀ id, u < id / 64 → id / 64 < u + 9 → ι2 id = ι' (argBase + 64 * (id / 64 - u - 1) + id % 64) := fun id h1 h2 => by rw [hι2]; simp only; rw [if_pos (by omega), if_neg (by omega)]
  have i2O : ∀ id, ¬ (u ≤ id / 64 ∧ id / 64 < u + 9) → ι2 id = ι id := fun id h => by rw [hι2]; simp only; rw [if_neg h]
  -- where what is given back lies
  have hlentA : ∀ j, j < B.length → (B.getD j (.cv .undef)).lent = true → (args.getD j (.cv .undef)).lent = true := fun j hj hle => by
    have := hB j (by omega)
    cases hx : B.getD j (.cv .undef) <;> rw [hx] at this hle <;> first | (cases hle; done) | skip
    all_goals
      cases hy : args.getD j (.cv .undef) <;> rw [hy] at this <;> first | exact this.elim | rfl
  have hlocB : ∀ j id, j < B.length → mget m (argBase + 64 * j) = some (some id) → (B.getD j (.cv .undef)).lent = true → ι' (argBase + 64 * j) = ι id := fun j id hj hm hle => by
    rcases hloc j (by omega) with h1 | h1
    · rw [h1]; unfold lendL; rw [hm]
    · rw [hlentA j hj hle] at h1; cases h1
  -- the own things of the heap that comes: old ones, and those that came
  have corr : ∀ id, Owned ι2 H2 id → (¬ (u ≤ id / 64 ∧ id / 64 < u + 9) ∧ (¬ ∃ k, (k, some id) ∈ m) ∧ Owned ι H id ∧ ι2 id = ι id) ∨
      ∃ r, Owned ι' (retOb args out) r ∧ ι2 id = ι' r ∧ ((id / 64 = u ∧ r = retBase + 64 * (id % 64)) ∨ (u < id / 64 ∧ id / 64 < u + 9 ∧ id % 64 ≠ 0 ∧ r = argBase + 64 * (id / 64 - u - 1) + id % 64) ∨
        (¬ (u ≤ id / 64 ∧ id / 64 < u + 9) ∧ ∃ j, j < 8 ∧ r = argBase + 64 * j ∧ (argBase + 64 * j, some id) ∈ m)) := by
    intro id ho
    by_cases hn : u ≤ id / 64 ∧ id / 64 < u + 9
    · by_cases hu : id / 64 = u
      · right
        refine ⟨retBase + 64 * (id % 64), ?_, i2R id hu, .inl ⟨hu, rfl⟩⟩
        unfold Owned at ho ⊢
        rw [hR id hu] at ho
        by_cases hc : id % 64 < out.res.length
        · rw [if_pos hc] at ho
          rw [hrR _ hc, ← i2R id hu]; exact ho
        · rw [if_neg hc] at ho; exact ho.elim
      · right
        have h1 : u < id / 64 := by omega
        by_cases hc : id / 64 < u + 1 + B.length ∧ id % 64 ≠ 0 ∧ isSS (mget m (argBase + 64 * (id / 64 - u - 1))) = true
        · refine ⟨argBase + 64 * (id / 64 - u - 1) + id % 64, ?_, i2S id h1 hn.2, .inr (.inl ⟨h1, hn.2, hc.2.1, rfl⟩)⟩
          unfold Owned at ho ⊢
          rw [hS id h1 hn.2, if_pos hc] at ho
          have e1 : argBase + 64 * (id / 64 - u - 1) + id % 64 = argBase + 64 * (id / 64 - u - 1) + 1 + (id % 64 - 1) := by omega
          rw [← i2S id h1 hn.2]
          rw [e1, hrS _ (by omega) _ (by omega)]
          exact ho
        · unfold Owned at ho
          rw [hS id h1 hn.2, if_neg hc] at ho
          exact ho.elim
    · rcases hO id hn with ⟨j, hj, hm, hle, hg⟩ | ⟨hm, hg⟩ | ⟨hm, hg⟩
      · right
        refine ⟨argBase + 64 * j, ?_, ?_, .inr (.inr ⟨hn, j, by omega, rfl, mem_of_mget hm⟩)⟩
        · unfold Owned at ho ⊢
          rw [hg, i2O id hn] at ho
          rw [hrT j hj, hlocB j id hj hm hle]
          cases hx : B.getD j (.cv .undef) with
          | obj b => trivial
          | mutr e xs => rw [hx] at ho; exact ho
          | _ => rw [hx] at hle; cases hle
        · rw [i2O id hn, hlocB j id hj hm hle]
      · unfold Owned at ho; rw [hg] at ho; exact ho.elim
      · exact .inl ⟨hn, hm, ho.of_eq hg (i2O id hn), i2O id hn⟩
  have ownH : ∀ b, Handed (lendL ι m) (argsOb argBase args 0) b → ∃ i, Owned ι H i ∧ (ι i).block = b ∧ ∃ k, (k, some i) ∈ m := fun b ⟨k, hk, hb⟩ => by
    obtain ⟨i, h1, h2, h3⟩ := lend_owned hl hob hk
    exact ⟨i, h2, by rw [← h3]; exact hb, k, h1⟩
  have oldNot : ∀ id, Owned ι H id → (¬ ∃ k, (k, some id) ∈ m) → ¬ Handed (lendL ι m) (argsOb argBase args 0) (ι id).block := fun id ho hm hh => by
    obtain ⟨i, h1, h2, h3⟩ := ownH _ hh
    have := h.hr.inj i id h1 ho h2
    subst this
    exact hm h3
  have Snot : ∀ b, S b → ¬ Handed (lendL ι m) (argsOb argBase args 0) b := fun b hs hh => by
    obtain ⟨i, h1, h2, _⟩ := ownH _ hh
    exact h.hr.disj i h1 (h2 ▸ hs)
  have oldblk : ∀ b, b < w.heap.size → ¬ Handed (lendL ι m) (argsOb argBase args 0) b → w'.heap[b]? = w.heap[b]? := fun b hb hn => hfr.block b hb hn
  have views : ∀ b o x, S b → w.cell? ⟨b, o, none⟩ = some x → S2 b ∧ w'.cell? ⟨b, o, none⟩ = some x := fun b o x hs hx => by
    refine ⟨by rw [hS2]; exact .inl hs, ?_⟩
    rw [cell_block (oldblk b (cell_lt hx) (Snot b hs))]; exact hx
  -- views that came
  have views2 : V = [] → ∀ b o x, S' b → w'.cell? ⟨b, o, none⟩ = some x → S2 b ∧ w'.cell? ⟨b, o, none⟩ = some x := fun hv0 b o x hs hx => by
    refine ⟨?_, hx⟩
    rw [hS2]
    refine .inr ⟨hs, ?_⟩
    rw [hv0]
    rintro ⟨i, hi, _⟩
    cases hi
  have vrC : ∀ {c : CV} {x : Value}, (V = [] ∨ c.scalar = true) → VR w' S' c x → VR w' S2 c x := fun hc hx => by
    rcases hc with hc | hc
    · exact hx.mono (views2 hc)
    · exact hx.scalar hc
  have rowC : ∀ {L : Loc} {e : Nat} {xs : List CV}, (V = [] ∨ ∀ x ∈ xs, x.scalar = true) → RowR L S' w' e xs → RowR L S2 w' e xs := fun hc hx => by
    rcases hc with hc | hc
    · exact hx.mono (views2 hc) (fun _ => rfl)
    · exact hx.scalar hc
  -- one that came, under its new name
  have avC : ∀ (oc : OC) (id r : Nat) (x : Value), (V = [] ∨ oc.scalar) → ι2 id = ι' r → LH.get H2 id = oc.row → LH.get (retOb args out) r = oc.row → AVR ι' (retOb args out) S' w' (oc.av r) x → AVR ι2 H2 S2 w' (oc.av id) x := by
    intro oc id r x hsc hi hg2 hgr hx
    cases oc with
    | cv c => exact .c _ _ (vrC hsc (avr_c hx))
    | own e xs =>
      refine .osl _ _ _ _ ?_
      have := oslOK_row (avr_osl hx) (.inl hgr)
      unfold OslOK
      rw [hg2, hi]
      exact this
  have resC : ∀ r ∈ out.res, V = [] ∨ r.scalar := fun r hr => hsc.imp id (fun h => h.1 r hr)
  have backC : ∀ b ∈ out.back, ∀ r ∈ b, V = [] ∨ r.scalar := fun b hb r hr => hsc.imp id (fun h => h.2 b hb r hr)
  have getD_mem' : ∀ {l : List OC} {q : Nat}, q < l.length → l.getD q (.cv .undef) ∈ l := fun {l q} hq => by
    rw [List.getD_eq_getElem?_getD, List.getElem?_eq_getElem hq]
    exact List.getElem_mem hq
  have hBobj : ∀ j, j < B.length → ∀ b, B.getD j (.cv .undef) = .obj b → b ∈ out.back ∧ ∃ cs, args.getD j (.cv .undef) = .obj cs ∧ b.length = cs.length := fun j hj b hb => by
    have := hB j (by omega)
    rw [hb] at this
    cases hy : args.getD j (.cv .undef) <;> rw [hy] at this <;> first | exact this.elim | exact ⟨this.2, _, rfl, this.1⟩
  have hBmut : ∀ j, j < B.length → ∀ e ys, B.getD j (.cv .undef) = .mutr e ys → [OC.own e ys] ∈ out.back ∧ ∃ xs, args.getD j (.cv .undef) = .mutr e xs ∧ ys.length = xs.length := fun j hj e ys hb => by
    have := hB j (by omega)
    rw [hb] at this
    cases hy : args.getD j (.cv .undef) <;> rw [hy] at this <;> first | exact this.elim | (obtain ⟨rfl, h2, h3⟩ := this; exact ⟨h3, _, rfl, h2⟩)
  -- which of ours an argument that is lent is
  have hmlent : ∀ j, j < B.length → (B.getD j (.cv .undef)).lent = true → ∃ i, mget m (argBase + 64 * j) = some (some i) := fun j hj hle => by
    have h1 := hq j (by omega)
    rw [Nat.zero_add] at h1
    cases hx : B.getD j (.cv .undef) with
    | obj b =>
      obtain ⟨_, cs, e1, _⟩ := hBobj j hj b hx
      rw [e1] at h1
      obtain ⟨i, _, hm, _⟩ := h1
      exact ⟨i, mget_of_mem hl.uniq hm⟩
    | mutr e ys =>
      obtain ⟨_, xs, e1, _⟩ := hBmut j hj e ys hx
      rw [e1] at h1
      obtain ⟨i, hm, _⟩ := h1
      exact ⟨i, mget_of_mem hl.uniq hm⟩
    | _ => rw [hx] at hle; cases hle
  have hsubget : ∀ j, j < B.length → ∀ b, B.getD j (.cv .undef) = .obj b → ∀ p, p < b.length → LH.get H2 (64 * (u + 1 + j) + 1 + p) = (b.getD p (.cv .undef)).row ∧ ι2 (64 * (u + 1 + j) + 1 + p) = ι' (argBase + 64 * j + 1 + p) ∧
      LH.get (retOb args out) (argBase + 64 * j + 1 + p) = (b.getD p (.cv .undef)).row := fun j hj b hb p hp => by
    have hbs : b.length ≤ 15 := hbl b (hBobj j hj b hb).1
    have d1 : (64 * (u + 1 + j) + 1 + p) / 64 = u + 1 + j := by omega
    have d2 : (64 * (u + 1 + j) + 1 + p) % 64 = 1 + p := by omega
    have d3 : u + 1 + j - u - 1 = j := by omega
    obtain ⟨i, hi⟩ := hmlent j hj (by rw [hb]; rfl)
    refine ⟨?_, ?_, ?_⟩
    · rw [hS _ (by omega) (by omega), d1, d2, d3, if_pos ⟨by omega, by omega, by rw [hi]; rfl⟩, hb]
      have : 1 + p - 1 = p := by omega
      rw [this]
      simp only [Arg.sub]
      rw [if_pos hp]
    · rw [i2S _ (by omega) (by omega), d1, d2, d3]
      congr 1; omega
    · rw [hrS j hj p (by omega), hb]
      simp only [Arg.sub]
      rw [if_pos hp]
  refine ⟨ι2, S2, h.upd ⟨hfr.os.trans h.fr.os, hfr.tape.trans h.fr.tape, hfr.output.trans h.fr.output, Nat.le_trans h.fr.size hfr.size, fun k hk hOk => ?_⟩
    (fun i ob hi => ?_) views (fun b hb => by rw [hS2]; exact .inl hb) (fun i => ?_) (fun i j hi hj he => ?_) (fun i hi => ?_) (fun i hi => ?_) (fun b hb => ?_) (fun i hi => ?_) (fun b hb => ?_) (fun i ob hi hoo hge => ?_), ?_⟩
  · -- the frame
    rw [oldblk k (Nat.lt_of_lt_of_le hk h.fr.size) (fun hh => ?_)]
    · exact h.fr.block k hk hOk
    · obtain ⟨i, h1, h2, _⟩ := ownH _ hh
      rcases h.own i h1 with h3 | h3
      · exact hOk (h2 ▸ h3)
      · omega
  · -- what was known goes on
    have hn : ¬ (u ≤ i / 64 ∧ i / 64 < u + 9) := by have := freshC_out hf hi; omega
    rcases hO i hn with ⟨j, hj, hm, hle, hg⟩ | ⟨hm, hg⟩ | ⟨hm, hg⟩
    · have h1 := hq j (by omega)
      rw [Nat.zero_add] at h1
      cases hx : B.getD j (.cv .undef) with
      | obj b =>
        obtain ⟨_, cs, e1, e2⟩ := hBobj j hj b hx
        rw [e1] at h1
        obtain ⟨i', cs', hm', hg', _, hlen', _⟩ := h1
        have : i' = i := by have := mget_of_mem hl.uniq hm'; rw [hm] at this; simp at this; exact this.symm
        subst this
        rw [hi] at hg'; cases hg'
        rw [hx] at hg
        exact ⟨_, hg, i2O _ hn, by rw [cellsAV_len, e2, hlen']⟩
      | mutr e ys =>
        obtain ⟨_, xs, e1, e2⟩ := hBmut j hj e ys hx
        rw [e1] at h1
        obtain ⟨i', hm', hg', _⟩ := h1
        have : i' = i := by have := mget_of_mem hl.uniq hm'; rw [hm] at this; simp at this; exact this.symm
        subst this
        rw [hi] at hg'; cases hg'
        rw [hx] at hg
        exact ⟨_, hg, i2O _ hn, rfl, e2⟩
      | _ => rw [hx] at hle; cases hle
    · refine ⟨_, hg, ?_⟩
      cases ob <;> trivial
    · rw [hi] at hg
      refine ⟨_, hg, ?_⟩
      have := Kept.refl ι i ob
      unfold Kept at this ⊢
      rw [i2O _ hn]
      exact this
  · -- each thing is as it was, or is borne
    by_cases hn : u ≤ i / 64 ∧ i / 64 < u + 9
    · right
      unfold NewAt
      by_cases hu : i / 64 = u
      · rw [hR i hu, i2R i hu]
        by_cases hc : i % 64 < out.res.length
        · rw [if_pos hc]
          have hgr := hrR _ hc
          cases hx : out.res.getD (i % 64) (.cv .undef) with
          | cv c => trivial
          | own e xs =>
            rw [hx] at hgr
            have hmem := getD_mem' hc
            rw [hx] at hmem
            exact rowC (resC _ hmem) (hr.row _ _ _ hgr)
        · rw [if_neg hc]; trivial
      · have h1 : u < i / 64 := by omega
        rw [hS i h1 hn.2, i2S i h1 hn.2]
        by_cases hc : i / 64 < u + 1 + B.length ∧ i % 64 ≠ 0 ∧ isSS (mget m (argBase + 64 * (i / 64 - u - 1))) = true
        · rw [if_pos hc]
          have e1 : argBase + 64 * (i / 64 - u - 1) + i % 64 = argBase + 64 * (i / 64 - u - 1) + 1 + (i % 64 - 1) := by omega
          have hgr := hrS (i / 64 - u - 1) (by omega) (i % 64 - 1) (by omega)
          rw [← e1] at hgr
          cases hx : B.getD (i / 64 - u - 1) (.cv .undef) with
          | obj b =>
            rw [hx] at hgr
            simp only [Arg.sub] at hgr ⊢
            by_cases hp : i % 64 - 1 < b.length
            · rw [if_pos hp] at hgr ⊢
              have hmem := getD_mem' hp
              cases hy : b.getD (i % 64 - 1) (.cv .undef) with
              | cv c => trivial
              | own e xs =>
                rw [hy] at hgr hmem
                exact rowC (backC b (hBobj _ (by omega) b hx).1 _ hmem) (hr.row _ _ _ hgr)
            · rw [if_neg hp]; trivial
          | _ => trivial
        · rw [if_neg hc]; trivial
    · rcases hO i hn with ⟨j, hj, hm, hle, hg⟩ | ⟨hm, hg⟩ | ⟨hm, hg⟩
      · right
        unfold NewAt
        rw [hg, i2O i hn, ← hlocB j i hj hm hle]
        have hgr := hrT j hj
        cases hx : B.getD j (.cv .undef) with
        | obj b =>
          rw [hx] at hgr
          have hbm := hBobj j hj b hx
          show ObjR _ _ _ _ _ _
          intro p hp
          rw [cellsAV_len] at hp
          obtain ⟨x, hx1, hx2, hx3⟩ := hr.obj _ _ hgr p (by rw [cellsAV_len]; exact hp)
          refine ⟨x, hx1, hx2, ?_⟩
          rw [cellsAV_get _ _ _ _ hp, Nat.add_zero] at hx3 ⊢
          obtain ⟨s1, s2, s3⟩ := hsubget j hj b hx p hp
          exact avC _ _ _ x (backC b hbm.1 _ (getD_mem' hp)) s2 s1 s3 hx3
        | mutr e ys =>
          rw [hx] at hgr
          have hbm := hBmut j hj e ys hx
          exact rowC (backC _ hbm.1 (.own e ys) List.mem_cons_self) (hr.row _ _ _ hgr)
        | _ => rw [hx] at hle; cases hle
      · right
        unfold NewAt
        rw [hg]
        trivial
      · exact .inl ⟨hg, i2O i hn, fun ho => oldblk _ (h.hr.lt i ho) (oldNot i ho hm)⟩
  · -- own things lie apart
    rcases corr i hi with ⟨_, hm, ho, el⟩ | ⟨r, ho, el, hcr⟩ <;> rcases corr j hj with ⟨_, hm', ho', el'⟩ | ⟨r', ho', el', hcr'⟩
    · rw [el, el'] at he; exact h.hr.inj i j ho ho' he
    · rw [el, el'] at he
      have h1 := h.hr.lt i ho
      rcases hown r' ho' with h2 | h2
      · rw [← he] at h2; exact absurd h2 (oldNot i ho hm)
      · omega
    · rw [el, el'] at he
      have h1 := h.hr.lt j ho'
      rcases hown r ho with h2 | h2
      · rw [he] at h2; exact absurd h2 (oldNot j ho' hm')
      · omega
    · rw [el, el'] at he
      have := hr.inj r r' ho ho' he
      subst this
      rcases hcr with ⟨c1, c2⟩ | ⟨c1, c2, c3, c4⟩ | ⟨c1, q, c2, c3, c4⟩ <;> rcases hcr' with ⟨d1, d2⟩ | ⟨d1, d2, d3, d4⟩ | ⟨d1, q', d2, d3, d4⟩
      · omega
      · exfalso; unfold retBase at c2; unfold argBase at d4; omega
      · exfalso; unfold retBase at c2; unfold argBase at d3; omega
      · exfalso; unfold argBase at c4; unfold retBase at d2; omega
      · omega
      · exfalso; omega
      · exfalso; unfold argBase at c3; unfold retBase at d2; omega
      · exfalso; omega
      · have : argBase + 64 * q = argBase + 64 * q' := c3.symm.trans d3
        rw [← this] at d4
        have := hl.uniq _ c4 _ d4 rfl
        simp at this
        exact this
  · -- apart from what is read
    rw [hS2]
    rcases corr i hi with ⟨_, hm, ho, el⟩ | ⟨r, ho, el, _⟩
    · rw [el]
      rintro (hs | ⟨hs, hno⟩)
      · exact h.hr.disj i ho hs
      · rcases hsup _ hs with (h1 | h1) | h1 | h1
        · exact h.hr.disj i ho h1
        · exact hno h1
        · exact oldNot i ho hm h1
        · have := h.hr.lt i ho; omega
    · rw [el]
      rintro (hs | ⟨hs, _⟩)
      · exact hr.disj r ho (hsub _ (.inl hs))
      · exact hr.disj r ho hs
  · rcases corr i hi with ⟨_, hm, ho, el⟩ | ⟨r, ho, el, _⟩
    · rw [el]; exact Nat.lt_of_lt_of_le (h.hr.lt i ho) hfr.size
    · rw [el]; exact hr.lt r ho
  · rw [hS2] at hb
    rcases hb with hb | ⟨hb, _⟩
    · exact Nat.lt_of_lt_of_le (h.hr.slt b hb) hfr.size
    · exact hr.slt b hb
  · rcases corr i hi with ⟨_, hm, ho, el⟩ | ⟨r, ho, el, _⟩
    · rw [el]; exact h.own i ho
    · rw [el]
      rcases hown r ho with h1 | h1
      · obtain ⟨i', h2, h3, _⟩ := ownH _ h1
        rw [← h3]; exact h.own i' h2
      · exact .inr (Nat.le_trans h.fr.size h1)
  · rw [hS2] at hb
    rcases hb with hb | ⟨hb, hno⟩
    · exact h.sup b hb
    · rcases hsup _ hb with (h1 | h1) | h1 | h1
      · exact h.sup b h1
      · exact absurd h1 hno
      · obtain ⟨i', h2, h3, _⟩ := ownH _ h1
        rcases h.own i' h2 with h4 | h4
        · exact .inr (.inl (h3 ▸ h4))
        · exact .inr (.inr (h3 ▸ h4))
      · exact .inr (.inr (Nat.le_trans h.fr.size h1))
  · have hn : ¬ (u ≤ i / 64 ∧ i / 64 < u + 9) := by
      have := hf.1
      unfold argBase at hge
      omega
    rw [i2O i hn]
    rcases hO i hn with ⟨j, hj, hm, hle, hg⟩ | ⟨hm, hg⟩ | ⟨hm, hg⟩
    · have h1 := hq j (by omega)
      rw [Nat.zero_add] at h1
      cases hx : B.getD j (.cv .undef) with
      | obj b =>
        obtain ⟨_, cs', e1, e2⟩ := hBobj j hj b hx
        rw [e1] at h1
        obtain ⟨i', cs', hm', hg', _⟩ := h1
        have : i' = i := by have := mget_of_mem hl.uniq hm'; rw [hm] at this; simp at this; exact this.symm
        subst this
        exact h.loc _ _ hg' trivial hge
      | mutr e ys =>
        obtain ⟨_, xs', e1, e2⟩ := hBmut j hj e ys hx
        rw [e1] at h1
        obtain ⟨i', hm', hg', _⟩ := h1
        have : i' = i := by have := mget_of_mem hl.uniq hm'; rw [hm] at this; simp at this; exact this.symm
        subst this
        exact h.loc _ _ hg' trivial hge
      | _ => rw [hx] at hle; cases hle
    · rw [hg] at hi; cases hi; exact hoo.elim
    · rw [hg] at hi; exact h.loc _ _ hi hoo hge
  · -- the result
    have one : ∀ q, q < out.res.length → ∀ x, AVR ι' (retOb args out) S' w' ((out.res.getD q (.cv .undef)).av (retBase + 64 * q)) x → AVR ι2 H2 S2 w' ((out.res.getD q (.cv .undef)).av (64 * u + q)) x := fun q hq1 x hx => by
      have d1 : (64 * u + q) / 64 = u := by omega
      have d2 : (64 * u + q) % 64 = q := by omega
      refine avC _ _ _ x (resC _ (getD_mem' hq1)) ?_ ?_ (hrR q hq1) hx
      · rw [i2R _ d1, d2]
      · rw [hR _ d1, d2, if_pos hq1]
    have many : ∀ (rs : List OC) (j : Nat), (∀ q, q < rs.length → rs.getD q (.cv .undef) = out.res.getD (j + q) (.cv .undef)) → j + rs.length ≤ out.res.length → ∀ q, q < rs.length → ∀ x,
        AVR ι' (retOb args out) S' w' ((argsAV retBase (rs.map OC.arg) j).getD q (.c .undef)) x → AVR ι2 H2 S2 w' ((impAV u rs j).getD q (.c .undef)) x := by
      intro rs
      induction rs with
      | nil => intro j _ _ q hq1; simp at hq1
      | cons r rs ih =>
        intro j he hle q hq1 x hx
        cases q with
        | zero =>
          have e1 := he 0 (by simp)
          simp only [List.getD_cons_zero, Nat.add_zero] at e1
          have := one j (by simp at hle; omega) x
          rw [← e1] at this
          have e2 : (r.arg).av (retBase + 64 * j) = r.av (retBase + 64 * j) := by cases r <;> rfl
          simp only [List.map_cons, argsAV, List.getD_cons_zero, e2] at hx
          exact this hx
        | succ q =>
          refine ih (j + 1) (fun q' hq' => ?_) (by simp at hle; omega) q (by simpa using hq1) x hx
          have := he (q' + 1) (by simpa using hq')
          rw [List.getD_cons_succ] at this
          rw [this]; congr 1; omega
    unfold retAV at hv
    unfold impRes
    split at hv
    · rename_i r hres
      have := one 0 (by rw [hres]; simp) v
      rw [hres] at this
      simp only [List.getD_cons_zero, Nat.mul_zero, Nat.add_zero] at this
      exact this hv
    · rename_i hres
      obtain ⟨us', rfl, hul, huv⟩ := avr_tup hv
      have il : ∀ (rs : List OC) (j : Nat), (impAV u rs j).length = rs.length := by
        intro rs
        induction rs with
        | nil => intro j; rfl
        | cons r rs ih => intro j; simp [impAV, ih]
      rw [argsAV_len, List.length_map] at hul
      refine .tup _ us' (by rw [il]; exact hul) (fun q hq1 => ?_)
      rw [il] at hq1
      exact many out.res 0 (fun q _ => by rw [Nat.zero_add]) (by omega) q hq1 _ (huv q (by rw [argsAV_len, List.length_map]; exact hq1))

end
end Go.Proofs.Ytcpdnpaedkcebaa.V
