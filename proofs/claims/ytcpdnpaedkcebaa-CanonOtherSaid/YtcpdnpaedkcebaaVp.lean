/- A small calculus over the model, sixteen: a function's contract out of its text. -/
import Derived.Test.YtcpdnpaedkcebaaVo
namespace Go.Proofs.Ytcpdnpaedkcebaa.V
open Go Go.RowKit
set_option linter.unusedVariables false
set_option linter.unusedSimpArgs false

def retVals (H : LH) (σ : Slots) : List (Nat × Option Nat × Mode) → (List (AV × Mode) → Prop) → Prop
  | [], K => K []
  | (t, none, md) :: l, K => retVals H σ l fun vs => K ((Slots.get σ t, md) :: vs)
  | (t, some n, md) :: l, K => loadW True H (Slots.get σ t) (if n = 0 then none else some n) fun v => retVals H σ l fun vs => K ((v, md) :: vs)

def backL (H : LH) : List Arg → List (List (Option Nat)) → Nat → (List (AV × Mode) → Prop) → Prop
  | [], _, _, K => K []
  | .obj _ :: as, ms :: mss, j, K =>
    match LH.get H (argBase + 64 * j) with
    | some (.obj _) => backL H as mss (j + 1) fun l => K ((.ref (argBase + 64 * j) 0, .ptr ms) :: l)
    | _ => False
  | .obj _ :: as, [], j, K => False
  | .mutr _ _ :: as, mss, j, K =>
    match LH.get H (argBase + 64 * j) with
    | some (.row _ xs) => backL H as mss (j + 1) fun l => K ((.osl (argBase + 64 * j) 0 xs.length, .mutr) :: l)
    | _ => False
  | .cv _ :: as, mss, j, K => backL H as mss (j + 1) fun l => K ((.c .undef, .plain) :: l)
  | .own _ _ :: as, mss, j, K => backL H as mss (j + 1) fun l => K ((.c .undef, .plain) :: l)

/-- The call's end: this comes out, this is given back. -/
def retW (σ : Slots) (H : LH) (rs : List (Nat × Option Nat × Mode)) (args : List Arg) (mss : List (List (Option Nat))) (out : Out) : Prop :=
  retVals H σ rs fun vs => argsW True retBase H vs 0 fun ras m1 V1 H1 => backL H1 args mss 0 fun bl => argsW True argBase H1 bl 0 fun bas m2 V2 H2 =>
    (ras = out.res.map OC.arg ∧ bas = backArgs args out.back) ∧ ∀ i ∈ V1 ++ V2, isLive H2 i

def chkRet (P : Program) : List ResultVar → List (Nat × Option Nat × Mode) → Bool
  | [], [] => true
  | .tmp t :: l, (t', none, _) :: l' => t == t' && chkRet P l l'
  | .cell t ty :: l, (t', some n, _) :: l' => t == t' && chkLoad P ty (if n = 0 then none else some n) && chkRet P l l'
  | _, _ => false

section
variable {P : Program} {C : Ctx} {ι : Nat → Loc} {S : Nat → Prop} {σ : Slots} {H : LH} {a : Act} {w : World}

/-- One result. -/
def resOne (tmps : Array Value) : ResultVar → Sem Value
  | .tmp t => pure (tmps.getD t Go.undef)
  | .cell ad t => do loadVar t (← asAddr (tmps.getD ad Go.undef))

theorem retVals_spec (h : R C ι S σ H a w) : ∀ (rv : List ResultVar) (rs : List (Nat × Option Nat × Mode)) (K : List (AV × Mode) → Prop), chkRet P rv rs = true → retVals H σ rs K →
    ∃ (vs : List (AV × Mode)) (us : List Value), K vs ∧ vs.length = rs.length ∧ us.length = vs.length ∧ rv.length = rs.length ∧ (∀ q, q < vs.length → AVR ι H S w (vs.getD q (.c .undef, .plain)).1 (us.getD q Go.undef)) ∧
      ∀ q, q < rv.length → (resOne a.tmps (rv.getD q (.tmp 0))).run P w = .ok (us.getD q Go.undef) w
  | [], [], K, _, hw => ⟨[], [], hw, rfl, rfl, rfl, fun q hq => by simp at hq, fun q hq => by simp at hq⟩
  | .tmp t :: rv, (t', none, md) :: rs, K, hc, hw => by
    simp only [chkRet, Bool.and_eq_true, beq_iff_eq] at hc
    obtain ⟨rfl, hc⟩ := hc
    obtain ⟨vs, us, hK, h1, h2, h3, h4, h5⟩ := retVals_spec h rv rs _ hc hw
    refine ⟨_, a.tmps.getD t Go.undef :: us, hK, by simp [h1], by simp [h2], by simp [h3], fun q hq => ?_, fun q hq => ?_⟩
    · cases q with
      | zero => exact h.sl t
      | succ q => exact h4 q (by simpa using hq)
    · cases q with
      | zero => rfl
      | succ q => exact h5 q (by simpa using hq)
  | .cell t ty :: rv, (t', some n, md) :: rs, K, hc, hw => by
    simp only [chkRet, Bool.and_eq_true, beq_iff_eq] at hc
    obtain ⟨⟨rfl, hl⟩, hc⟩ := hc
    obtain ⟨av, y, hw, hv, hr⟩ := load_sound (P := P) h (h.sl t) hl hw trivial
    obtain ⟨vs, us, hK, h1, h2, h3, h4, h5⟩ := retVals_spec h rv rs _ hc hw
    refine ⟨_, y :: us, hK, by simp [h1], by simp [h2], by simp [h3], fun q hq => ?_, fun q hq => ?_⟩
    · cases q with
      | zero => exact hv
      | succ q => exact h4 q (by simpa using hq)
    · cases q with
      | zero =>
        simp only [List.getD_cons_zero, resOne]
        unfold Instr.loadAt at hr
        rw [Sem.run_bind] at hr ⊢
        cases hx : a.tmps.getD t Go.undef <;> rw [hx] at hr <;> first
          | (simp [Instr.sureAddr, stuck, Sem.run, Result.andThen] at hr; done)
          | skip
        rename_i ad
        cases ad with
        | none => simp [Instr.sureAddr, stuck, Sem.run, Result.andThen] at hr
        | some ad => simpa [Instr.sureAddr, asAddr, pure, Sem.run] using hr
      | succ q => exact h5 q (by simpa using hq)
  | [], _ :: _, _, hc, _ => by simp [chkRet] at hc
  | .tmp _ :: _, [], _, hc, _ => by simp [chkRet] at hc
  | .cell _ _ :: _, [], _, hc, _ => by simp [chkRet] at hc
  | .tmp _ :: _, (_, some _, _) :: _, _, hc, _ => by simp [chkRet] at hc
  | .cell _ _ :: _, (_, none, _) :: _, _, hc, _ => by simp [chkRet] at hc

theorem run_mapM {α : Type} (f : α → Sem Value) : ∀ (l : List α) (us : List Value) (d : α), us.length = l.length → (∀ q, q < l.length → (f (l.getD q d)).run P w = .ok (us.getD q Go.undef) w) → (l.mapM f).run P w = .ok us w
  | [], [], _, _, _ => by simp [pure, Sem.run]
  | x :: l, y :: us, d, hl, h => by
    have h0 := h 0 (by simp)
    simp only [List.getD_cons_zero] at h0
    have := run_mapM f l us d (by simpa using hl) (fun q hq => h (q + 1) (by simpa using hq))
    simp [List.mapM_cons, h0, this, pure, Sem.run]
  | [], _ :: _, _, hl, _ => by simp at hl
  | _ :: _, [], _, hl, _ => by simp at hl

def tupV : List Value → Value
  | [x] => x
  | xs => .tuple xs.toArray

/-- What a call's results come to. -/
theorem run_results {fn : Func} {rv : List ResultVar} (hr : fn.results.toList = rv) (tmps : Array Value) (us : List Value) (hu : us.length = rv.length)
    (h : ∀ q, q < rv.length → (resOne tmps (rv.getD q (.tmp 0))).run P w = .ok (us.getD q Go.undef) w) :
    (results fn tmps).run P w = .ok (tupV us) w := by
  have hm : (fn.results.mapM (resOne tmps)).run P w = .ok us.toArray w := by
    rw [Array.mapM_eq_mapM_toList, hr]
    have := run_mapM (P := P) (w := w) (resOne tmps) rv us (.tmp 0) hu h
    simp [this]
  have e : results fn tmps = (fn.results.mapM (resOne tmps) >>= fun vs => pure (if h : vs.size = 1 then vs[0] else .tuple vs)) := by
    unfold results
    rfl
  rw [e, Sem.run_bind, hm, Result.andThen_ok]
  clear hm h
  cases us with
  | nil => rfl
  | cons x l =>
    cases l with
    | nil => rfl
    | cons y l => simp [pure, Sem.run, tupV]

theorem backL_spec (h : R C ι S σ H a w) {H1 : LH} (hc : ∀ i o, LH.get H1 i = some o → o ≠ .dead → LH.get H i = some o) : ∀ (args : List Arg) (mss : List (List (Option Nat))) (j : Nat) (K : List (AV × Mode) → Prop), backL H1 args mss j K →
    ∃ (bl : List (AV × Mode)) (us : List Value), K bl ∧ bl.length = args.length ∧ us.length = bl.length ∧ (∀ q, q < bl.length → AVR ι H S w (bl.getD q (.c .undef, .plain)).1 (us.getD q Go.undef)) ∧
      ∀ q, q < args.length → (args.getD q (.cv .undef)).lent = true → (∃ ms, bl.getD q (.c .undef, .plain) = (.ref (argBase + 64 * (j + q)) 0, .ptr ms)) ∨ (∃ n, bl.getD q (.c .undef, .plain) = (.osl (argBase + 64 * (j + q)) 0 n, .mutr))
  | [], mss, j, K, hw => ⟨[], [], hw, rfl, rfl, fun q hq => by simp at hq, fun q hq => by simp at hq⟩
  | .cv v :: args, mss, j, K, hw => by
    obtain ⟨bl, us, hK, h1, h2, h3, h4⟩ := backL_spec h hc args mss (j + 1) _ hw
    refine ⟨_, Go.undef :: us, hK, by simp [h1], by simp [h2], fun q hq => ?_, fun q hq hl => ?_⟩
    · cases q with
      | zero => exact AVR.undef _
      | succ q => exact h3 q (by simpa using hq)
    · cases q with
      | zero => cases hl
      | succ q =>
        have := h4 q (by simpa using hq) (by simpa using hl)
        have e : j + 1 + q = j + (q + 1) := by omega
        rw [e] at this; exact this
  | .own e xs :: args, mss, j, K, hw => by
    obtain ⟨bl, us, hK, h1, h2, h3, h4⟩ := backL_spec h hc args mss (j + 1) _ hw
    refine ⟨_, Go.undef :: us, hK, by simp [h1], by simp [h2], fun q hq => ?_, fun q hq hl => ?_⟩
    · cases q with
      | zero => exact AVR.undef _
      | succ q => exact h3 q (by simpa using hq)
    · cases q with
      | zero => cases hl
      | succ q =>
        have := h4 q (by simpa using hq) (by simpa using hl)
        have e : j + 1 + q = j + (q + 1) := by omega
        rw [e] at this; exact this
  | .obj cs :: args, [], j, K, hw => hw.elim
  | .obj cs :: args, ms :: mss, j, K, hw => by
    simp only [backL] at hw
    split at hw
    · rename_i cs' hg
      obtain ⟨bl, us, hK, h1, h2, h3, h4⟩ := backL_spec h hc args mss (j + 1) _ hw
      refine ⟨_, .pointer (some ⟨(ι (argBase + 64 * j)).block, (ι (argBase + 64 * j)).off + 0, none⟩) :: us, hK, by simp [h1], by simp [h2], fun q hq => ?_, fun q hq hl => ?_⟩
      · cases q with
        | zero =>
          refine .ref _ _ _ ?_
          unfold RefOK
          rw [hc _ _ hg (by simp)]
          exact ⟨Nat.zero_le _, rfl⟩
        | succ q => exact h3 q (by simpa using hq)
      · cases q with
        | zero => exact .inl ⟨ms, rfl⟩
        | succ q =>
          have := h4 q (by simpa using hq) (by simpa using hl)
          have e : j + 1 + q = j + (q + 1) := by omega
          rw [e] at this; exact this
    · exact hw.elim
  | .mutr e0 xs0 :: args, mss, j, K, hw => by
    simp only [backL] at hw
    split at hw
    · rename_i e xs hg
      obtain ⟨bl, us, hK, h1, h2, h3, h4⟩ := backL_spec h hc args mss (j + 1) _ hw
      have hgH := hc _ _ hg (by simp)
      refine ⟨_, (if (ι (argBase + 64 * j)).isnil = true then .slice none 0 0 else .slice (some ⟨(ι (argBase + 64 * j)).block, (ι (argBase + 64 * j)).off + 0 * e, none⟩) xs.length ((ι (argBase + 64 * j)).cap - 0)) :: us, hK, by simp [h1], by simp [h2], fun q hq => ?_, fun q hq hl => ?_⟩
      · cases q with
        | zero =>
          refine .osl _ _ _ _ ?_
          unfold OslOK
          rw [hgH]
          refine ⟨by simp, ?_⟩
          simp only [List.getD_cons_zero]
          have hr := h.hr.row _ _ _ hgH
          unfold RowR at hr
          unfold SliceAt
          split
          · rename_i hn
            rw [if_pos hn] at hr
            subst hr
            exact ⟨rfl, rfl, _, rfl⟩
          · exact .inl rfl
        | succ q => exact h3 q (by simpa using hq)
      · cases q with
        | zero => exact .inr ⟨_, rfl⟩
        | succ q =>
          have := h4 q (by simpa using hq) (by simpa using hl)
          have e : j + 1 + q = j + (q + 1) := by omega
          rw [e] at this; exact this
    · exact hw.elim

theorem OB.append {H H1 A B : LH} {m m' : List (Nat × Option Nat)} {lo mid : Nat} (hl : Lend H H1 m lo mid) (hA : OB H m A) (hB : OB H1 m' B) (hd : ∀ k o, LH.get B k = some o → LH.get A k = none) : OB H (m ++ m') (A ++ B) := by
  refine ⟨fun k e xs hg => ?_, fun k cs hg => ?_, fun k e xs hg => ?_, fun k hg => ?_⟩
  · rw [get_append] at hg
    cases hx : LH.get A k with
    | some o =>
      rw [hx] at hg; cases hg
      rcases hA.row _ _ _ hx with ⟨h1, h2⟩ | ⟨i, h1, h2⟩
      · exact .inl ⟨h1, List.mem_append_left _ h2⟩
      · exact .inr ⟨i, List.mem_append_left _ h1, h2⟩
    | none =>
      rw [hx] at hg
      rcases hB.row _ _ _ hg with ⟨h1, h2⟩ | ⟨i, h1, h2⟩
      · exact .inl ⟨h1, List.mem_append_right _ h2⟩
      · exact .inr ⟨i, List.mem_append_right _ h1, hl.back h2 (by simp)⟩
  · rw [get_append] at hg
    cases hx : LH.get A k with
    | some o =>
      rw [hx] at hg; cases hg
      obtain ⟨i, cs2, h1, h2, h3, h4⟩ := hA.obj _ _ hx
      refine ⟨i, cs2, List.mem_append_left _ h1, h2, h3, fun q hq => ?_⟩
      rcases h4 q hq with h5 | ⟨key, e, xs, h5, h6, h7⟩
      · exact .inl h5
      · refine .inr ⟨key, e, xs, h5, by rw [get_append, h6], ?_⟩
        rcases h7 with ⟨a1, a2, a3⟩ | ⟨i', a1, a2, a3⟩
        · exact .inl ⟨a1, a2, List.mem_append_left _ a3⟩
        · exact .inr ⟨i', a1, List.mem_append_left _ a2, a3⟩
    | none =>
      rw [hx] at hg
      obtain ⟨i, cs2, h1, h2, h3, h4⟩ := hB.obj _ _ hg
      refine ⟨i, cs2, List.mem_append_right _ h1, hl.back h2 (by simp), h3, fun q hq => ?_⟩
      rcases h4 q hq with h5 | ⟨key, e, xs, h5, h6, h7⟩
      · exact .inl h5
      · refine .inr ⟨key, e, xs, h5, by rw [get_append, hd _ _ h6]; exact h6, ?_⟩
        rcases h7 with ⟨a1, a2, a3⟩ | ⟨i', a1, a2, a3⟩
        · exact .inl ⟨a1, a2, List.mem_append_right _ a3⟩
        · exact .inr ⟨i', a1, List.mem_append_right _ a2, hl.back a3 (by simp)⟩
  · rw [get_append] at hg
    cases hx : LH.get A k with
    | some o => rw [hx] at hg; cases hg; exact hA.vrow _ _ _ hx
    | none => rw [hx] at hg; exact hB.vrow _ _ _ hg
  · rw [get_append] at hg
    cases hx : LH.get A k with
    | some o => rw [hx] at hg; cases hg; exact hA.dead _ hx
    | none => rw [hx] at hg; exact hB.dead _ hg

end

theorem slotsOf_get : ∀ (l : List AV) (j t : Nat), Slots.get (slotsOf l j) t = if j ≤ t ∧ t < j + l.length then l.getD (t - j) (.c .undef) else .c .undef
  | [], j, t => by rw [if_neg (by simp)]; rfl
  | v :: l, j, t => by
    simp only [slotsOf, Slots.get]
    by_cases e : j = t
    · subst e
      rw [if_pos rfl, if_pos (by simp), Nat.sub_self, List.getD_cons_zero]
    · rw [if_neg e, slotsOf_get l (j + 1) t]
      by_cases h : j + 1 ≤ t ∧ t < j + 1 + l.length
      · rw [if_pos h, if_pos (by simp; omega)]
        have : t - j = (t - (j + 1)) + 1 := by omega
        rw [this, List.getD_cons_succ]
      · rw [if_neg h, if_neg (by simp; omega)]

/-- The end: what comes out, what is given back. -/
theorem fin_sound {P : Program} {fn : Func} {args : List Arg} {out : Out} {rs : List (Nat × Option Nat × Mode)} {mss : List (List (Option Nat))} {C : Ctx} {ι : Nat → Loc} {S : Nat → Prop} {w : World} {ds : List Deferred}
    (hC : C = ⟨w, Handed ι (argsOb argBase args 0), S, ι, fn.ntmps, ds⟩) (hret : chkRet P fn.results.toList rs = true) (h8 : args.length ≤ 8) (hvl' : True) (hbo : backOK args out.back)
    {ι1 : Nat → Loc} {S1 : Nat → Prop} {σ1 : Slots} {H1 : LH} {a1 : Act} {w1 : World} (h1 : R C ι1 S1 σ1 H1 a1 w1) (hrw : retW σ1 H1 rs args mss out) :
    ∃ v, (results fn a1.tmps).run P w1 = .ok v w1 ∧ (∃ v' ι' S', Ending.returned v = .returned v' ∧
      AVR ι' (retOb args out) S' w1 (retAV out.res) v' ∧ HR ι' S' (retOb args out) w1 ∧
      (∀ j, j < args.length → ι' (argBase + 64 * j) = ι (argBase + 64 * j) ∨ (args.getD j (.cv .undef)).lent = false) ∧
      (∀ id, Owned ι' (retOb args out) id → Handed ι (argsOb argBase args 0) (ι' id).block ∨ w.heap.size ≤ (ι' id).block) ∧
      (∀ b, S b → S' b) ∧ (∀ b, S' b → S b ∨ Handed ι (argsOb argBase args 0) b ∨ w.heap.size ≤ b) ∧
      Fr (Handed ι (argsOb argBase args 0)) w w1) := by
  subst hC
  obtain ⟨vs, us, hk1, hvsl, husl, hrvl, hva1, hrun⟩ := retVals_spec h1 _ _ _ hret hrw
  obtain ⟨ras, m1, V1, H2, hk2, hl1, hral, hq1, hV1⟩ := argsW_spec h1 trivial retBase vs us H1 0 _ husl hva1 (fun i o hi _ => hi) hk1
  obtain ⟨bl, bus, hk3, hbll, hbul, hbv, hblent⟩ := backL_spec h1 (fun i o hi ho => hl1.back hi ho) _ _ _ _ hk2
  obtain ⟨bas, m2, V2, H3, ⟨⟨hre, hbe⟩, hlive⟩, hl2, hbal, hq2, hV2⟩ := argsW_spec h1 trivial argBase bl bus H2 0 _ hbul hbv (fun i o hi ho => hl1.back hi ho) hk3
  have hn1 : bl.length = args.length := hbll
  rw [hbll] at hl2 hq2
  rw [Nat.zero_add] at hl1 hl2
  simp only [Nat.mul_zero, Nat.add_zero] at hl1 hl2
  have hral' : vs.length = ras.length := hral.symm
  rw [hral'] at hl1 hq1
  have hbal' : args.length = bas.length := by rw [hbal, hbll]
  obtain ⟨hsm1, hob1⟩ := args_OB (base := retBase) (by rfl) hl1 hq1
  rw [hbal'] at hl2 hq2
  obtain ⟨hsm2, hob2⟩ := args_OB (base := argBase) (by rfl) hl2 hq2
  have hd : ∀ k o, LH.get (argsOb argBase bas 0) k = some o → LH.get (argsOb retBase ras 0) k = none := fun k o hk => by
    rw [get_argsOb argBase (by rfl) bas 0 k hsm2] at hk
    split at hk
    · rw [get_argsOb retBase (by rfl) ras 0 k hsm1, if_neg]
      rename_i hk2
      unfold argBase at hk2
      unfold retBase
      omega
    · cases hk
  have hob := OB.append hl1 hob1 hob2 hd
  have hret2 : retOb args out = argsOb retBase ras 0 ++ argsOb argBase bas 0 := by
    unfold retOb; rw [← hre, ← hbe]
  rw [← hret2] at hob
  -- both handings, as one
  have hlz : Lend0 H1 H3 (m1 ++ m2) := Lend0.append hl1.zero hl2.zero
  have hlen : Lend H1 H3 (m1 ++ m2) 0 (retBase + 64 * ras.length + argBase) := by
    refine ⟨fun p hp => ?_, fun p hp q hq e => ?_, hlz.moved, hlz.inj, hlz.other⟩
    · rcases List.mem_append.1 hp with hp | hp
      · have := hl1.keys p hp; unfold argBase; omega
      · have := hl2.keys p hp
        unfold argBase at this ⊢
        unfold retBase
        omega
    · have apart : ∀ p ∈ m1, ∀ q ∈ m2, p.1 ≠ q.1 := fun p hp q hq => by
        have h1 := hl1.keys p hp
        have h2 := hl2.keys q hq
        unfold argBase at h2
        unfold retBase at h1
        omega
      rcases List.mem_append.1 hp with hp | hp <;> rcases List.mem_append.1 hq with hq | hq
      · exact hl1.uniq p hp q hq e
      · exact absurd e (apart p hp q hq)
      · exact absurd e.symm (apart q hq p hp)
      · exact hl2.uniq p hp q hq e
  have hVV : ∀ i ∈ V1 ++ V2, (∃ e xs, LH.get H1 i = some (.row e xs)) ∧ isLive H3 i := fun i hi => by
    refine ⟨?_, hlive i hi⟩
    rcases List.mem_append.1 hi with hi | hi
    · exact hV1 i hi
    · exact hV2 i hi
  have hHR := lend_HR (V := V1 ++ V2) h1.hr hlen hob hVV
  -- the results' values
  have hq1' : ∀ q, q < ras.length → ArgR ι1 S1 w1 H1 (m1 ++ m2) (V1 ++ V2) (retBase + 64 * (0 + q)) (vs.getD q (.c .undef, .plain)).1 (us.getD q Go.undef) (ras.getD q (.cv .undef)) := fun q hq => (hq1 q hq).more
  have hgetx : ∀ k o, LH.get (argsOb retBase ras 0) k = some o → LH.get (retOb args out) k = some o := fun k o hk => by
    rw [hret2, get_append, hk]
  have hAV := args_AVR (base := retBase) (by rfl) hlen hq1' hgetx
  refine ⟨_, run_results rfl a1.tmps us (by rw [husl, hvsl, hrvl]) hrun, ?_⟩
  refine ⟨_, lendL ι1 (m1 ++ m2), Sv ι1 S1 (V1 ++ V2), rfl, ?_, hHR, fun j hj => ?_, fun id ho => ?_, fun b hb => .inl (h1.sub b hb), fun b hb => ?_, h1.fr⟩
  · -- the value
    have hrl : ras.length = us.length := by rw [husl]; exact hral
    unfold retAV
    have hsize : out.res.length = us.length := by rw [← hrl, hre, List.length_map]
    split
    · rename_i r hres
      rw [hres] at hsize
      cases us with
      | nil => simp at hsize
      | cons x us =>
        cases us with
        | nil =>
          have := hAV 0 (by rw [hrl]; simp)
          rw [hre, hres] at this
          simp only [List.map_cons, List.map_nil, argsAV, List.getD_cons_zero, Nat.mul_zero, Nat.add_zero] at this
          have e2 : (r.arg).av retBase = r.av retBase := by cases r <;> rfl
          rw [e2] at this
          exact this
        | cons y us => simp at hsize
    · rename_i hres
      have ht : tupV us = .tuple us.toArray := by
        cases us with
        | nil => rfl
        | cons x us =>
          cases us with
          | nil =>
            rw [List.length_singleton] at hsize
            obtain ⟨r, hr⟩ := List.length_eq_one_iff.1 hsize
            exact absurd hr (hres r)
          | cons y us => rfl
      rw [ht]
      refine .tup _ _ (by rw [argsAV_len, List.length_map]; simpa using hsize.symm) (fun q hq => ?_)
      rw [argsAV_len] at hq
      have := hAV q (by rw [hre]; exact hq)
      rw [← hre]
      have e3 : us.toArray.getD q Go.undef = us.getD q Go.undef := by simp [List.getD_eq_getElem?_getD]
      rw [e3]
      exact this
  · -- where what is given back lies
    by_cases hlent : (args.getD j (.cv .undef)).lent = true
    · left
      have hbk := hblent j hj hlent
      rw [Nat.zero_add] at hbk
      have hr2 := hq2 j (by omega)
      rw [Nat.zero_add] at hr2
      have hmem : (argBase + 64 * j, some (argBase + 64 * j)) ∈ m2 := by
        rcases hbk with ⟨ms, e1⟩ | ⟨n, e1⟩
        · rw [e1] at hr2
          have hbq := (backArgs_spec args out.back hbo).2 j hj
          rw [← hbe] at hbq
          cases hx : bas.getD j (.cv .undef) with
          | obj ocs =>
            rw [hx] at hr2
            obtain ⟨i, cs, a1, a2, ⟨_, a3⟩, _⟩ := hr2
            simp only [AV.ref.injEq] at a3
            rw [← a3.1] at a1
            exact a1
          | mutr e xs =>
            rw [hx] at hr2
            obtain ⟨i, a1, a2, a3, a4⟩ := hr2
            cases a4
          | _ =>
            rw [hx] at hbq
            cases hy : args.getD j (.cv .undef) <;> rw [hy] at hbq hlent <;> first | exact hbq.elim | cases hlent
        · rw [e1] at hr2
          have hbq := (backArgs_spec args out.back hbo).2 j hj
          rw [← hbe] at hbq
          cases hx : bas.getD j (.cv .undef) with
          | obj ocs =>
            rw [hx] at hr2
            obtain ⟨i, cs, a1, a2, ⟨_, a3⟩, _⟩ := hr2
            cases a3
          | mutr e xs =>
            rw [hx] at hr2
            obtain ⟨i, a1, a2, a3, a4⟩ := hr2
            simp only [AV.osl.injEq] at a4
            rw [← a4.1] at a1
            exact a1
          | _ =>
            rw [hx] at hbq
            cases hy : args.getD j (.cv .undef) <;> rw [hy] at hbq hlent <;> first | exact hbq.elim | cases hlent
      rw [lendL_some hlen.uniq (List.mem_append_right _ hmem)]
      -- what was lent lies where it lay
      have hown := hlen.moved _ _ (List.mem_append_right _ hmem)
      cases hg : LH.get H1 (argBase + 64 * j) with
      | none => rw [hg] at hown; exact hown.1.elim
      | some ob =>
        rw [hg] at hown
        refine h1.loc _ _ hg ?_ (by omega)
        cases ob <;> first | trivial | exact hown.1.elim
    · right; simpa using hlent
  · obtain ⟨i, a1, a2, a3⟩ := lend_owned hlen hob ho
    rw [a3]; exact h1.own i a2
  · rcases hb with hb | ⟨i, hi, hn, rfl⟩
    · exact h1.sup b hb
    · obtain ⟨⟨e, xs, hg⟩, _⟩ := hVV i hi
      exact .inr (h1.own i (by unfold Owned; rw [hg]; exact hn))

/-- What a call of closed values, rows and variables begins with. -/
theorem start_R {args : List Arg} {fn : Func} {ι : Nat → Loc} {S : Nat → Prop} {w : World} {vals : List Value} (hn : args.length ≤ fn.ntmps) (hvl : vals.length = args.length)
    (hva : ∀ j, j < args.length → AVR ι (argsOb argBase args 0) S w ((argsAV argBase args 0).getD j (.c .undef)) (vals.getD j Go.undef)) (hhr : HR ι S (argsOb argBase args 0) w) :
    R ⟨w, Handed ι (argsOb argBase args 0), S, ι, fn.ntmps, []⟩ ι S (slotsOf (argsAV argBase args 0) 0) (argsOb argBase args 0) { tmps := vals.toArray ++ Array.replicate (fn.ntmps - vals.toArray.size) undef, defers := [] } w := by
  refine ⟨Fr.refl _ _, hhr, fun t => ?_, fun id ho => .inl ⟨id, ho, rfl⟩, fun b hb => .inl hb, fun b hb => hb, fun id ob hg _ hge => rfl, ?_, rfl⟩
  · rw [slotsOf_get, argsAV_len]
    by_cases ht : 0 ≤ t ∧ t < 0 + args.length
    · rw [if_pos ht, Nat.sub_zero]
      have := hva t (by omega)
      have e : (vals.toArray ++ Array.replicate (fn.ntmps - vals.toArray.size) undef).getD t undef = vals.getD t undef := by
        have hlt : t < vals.length := by omega
        simp [Array.getElem?_append_left, hlt, List.getD_eq_getElem?_getD]
      rw [e]; exact this
    · rw [if_neg ht]; exact AVR.undef _
  · show (vals.toArray ++ Array.replicate (fn.ntmps - vals.toArray.size) undef).size = fn.ntmps
    simp; omega

/-- THE LAW: a function's contract, out of what its compact code does to abstract slots and blocks. -/
theorem CW_of {P : Program} {f : FuncId} {fn : Func} {c : Code} {ic : IC} {args : List Arg} {out : Out} {rs : List (Nat × Option Nat × Mode)} {mss : List (List (Option Nat))}
    (hf : P.funcs[f]? = some fn) (hb : fn.body = some c) (hisf : isFn P f = true) (hret : chkRet P fn.results.toList rs = true) (hn : args.length ≤ fn.ntmps) (h8 : args.length ≤ 8)
    (hchk : chkC P fn.ntmps ic c = true) (hbo : backOK args out.back)
    (hw : wpC P ic (fun e σ H => match e with | .exit _ => False | .pan _ _ _ => False | _ => retW σ H rs args mss out) (slotsOf (argsAV argBase args 0) 0) (argsOb argBase args 0)) : CW P f args out := by
  refine ⟨hisf, hbo, fun ι S w vals hvl hva hhr => ?_⟩
  refine calls_of_wp hf hb ?_
  let C : Ctx := ⟨w, Handed ι (argsOb argBase args 0), S, ι, fn.ntmps, []⟩
  have hR := start_R (fn := fn) hn hvl hva hhr
  refine code_sound (C := C) ic c hchk hR hw (fun e ι1 S1 σ1 H1 a1 w1 hq h0 => ?_)
  have fin : ∀ h1 : R C ι1 S1 σ1 H1 a1 w1, retW σ1 H1 rs args mss out → a1.defers = [] ∧ ∃ v, (results fn a1.tmps).run P w1 = .ok v w1 ∧ (∃ v' ι' S', Ending.returned v = .returned v' ∧
      AVR ι' (retOb args out) S' w1 (retAV out.res) v' ∧ HR ι' S' (retOb args out) w1 ∧
      (∀ j, j < args.length → ι' (argBase + 64 * j) = ι (argBase + 64 * j) ∨ (args.getD j (.cv .undef)).lent = false) ∧
      (∀ id, Owned ι' (retOb args out) id → Handed ι (argsOb argBase args 0) (ι' id).block ∨ w.heap.size ≤ (ι' id).block) ∧
      (∀ b, S b → S' b) ∧ (∀ b, S' b → S b ∨ Handed ι (argsOb argBase args 0) b ∨ w.heap.size ≤ b) ∧
      Fr (Handed ι (argsOb argBase args 0)) w w1) := fun h1 hrw => ⟨h1.defs, fin_sound rfl hret h8 trivial hbo h1 hrw⟩
  cases e with
  | norm => exact fin h0 hq
  | ret => exact fin h0 hq
  | exit i => exact hq.elim
  | pan t k n => exact hq.elim

/-- The law for a function that gives up. -/
theorem CWp_of {P : Program} {f : FuncId} {fn : Func} {c : Code} {ic : IC} {args : List Arg} {t : TypeId} {k : IntKind} {n : Int}
    (hf : P.funcs[f]? = some fn) (hb : fn.body = some c) (hisf : isFn P f = true) (hn : args.length ≤ fn.ntmps)
    (hchk : chkC P fn.ntmps ic c = true)
    (hw : wpC P ic (fun e σ H => match e with | .pan t' k' n' => t' = t ∧ k' = k ∧ n' = n | _ => False) (slotsOf (argsAV argBase args 0) 0) (argsOb argBase args 0)) : CWp P f args t k n := by
  refine ⟨hisf, fun ι S w vals hvl hva hhr => ?_⟩
  refine calls_of_wp hf hb ?_
  let C : Ctx := ⟨w, Handed ι (argsOb argBase args 0), S, ι, fn.ntmps, []⟩
  have hR := start_R (fn := fn) hn hvl hva hhr
  refine code_sound (C := C) ic c hchk hR hw (fun e ι1 S1 σ1 H1 a1 w1 hq h0 => ?_)
  cases e with
  | norm => exact hq.elim
  | ret => exact hq.elim
  | exit i => exact hq.elim
  | pan t' k' n' =>
    obtain ⟨rfl, rfl, rfl⟩ := hq
    have h1 : R C ι1 S1 σ1 H1 a1 w1 := h0
    exact ⟨h1.defs, rfl, h1.fr⟩
end Go.Proofs.Ytcpdnpaedkcebaa.V
