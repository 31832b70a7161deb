/- A contract whose result is a row of its own, read as one whose result is a closed value. -/
import Derived.Test.YtcpdnpaedkcebaaVw
namespace Go.Proofs.Ytcpdnpaedkcebaa.V
open Go Go.RowKit
set_option linter.unusedVariables false
set_option linter.unusedSimpArgs false

theorem row_vr {L : Loc} {S : Nat → Prop} {w : World} {e : Nat} {xs : List CV} (h : RowR L S w e xs) (hn : L.isnil = false) :
    VR w (fun b => S b ∨ (L.isnil = false ∧ b = L.block)) (.sl e xs) (.slice (some ⟨L.block, L.off, none⟩) xs.length L.cap) := by
  unfold RowR at h
  rw [if_neg (by simp [hn])] at h
  obtain ⟨h1, h2, h3, h4⟩ := h
  have hu : ∃ u : Nat → Nat → Value, ∀ i j, i < xs.length → j < e → w.cell? ⟨L.block, L.off + (i * e + j), none⟩ = some (u i j) ∧ VR w S ((xs.getD i .undef).cells.getD j .undef) (u i j) := by
    refine ⟨fun i j => if hh : i < xs.length ∧ j < e then (h4 i j hh.1 hh.2).choose else default, fun i j hi hj => ?_⟩
    have hh : i < xs.length ∧ j < e := ⟨hi, hj⟩
    simp only [dif_pos hh]
    exact (h4 i j hi hj).choose_spec
  obtain ⟨u, hu⟩ := hu
  exact .sl e xs _ _ _ u h1 h2 (fun i j hi hj => ⟨.inr ⟨hn, rfl⟩, (hu i j hi hj).1⟩) (fun i j hi hj => (hu i j hi hj).2.mono fun b o x hs hx => ⟨.inl hs, hx⟩)

theorem argsOb_back (base : Nat) : ∀ (as : List Arg) (j : Nat), unlent as = true → argsOb base (backArgs as []) j = []
  | [], _, _ => rfl
  | .cv v :: as, j, h => by simp only [backArgs, argsOb, Arg.ob, List.nil_append]; exact argsOb_back base as (j + 1) h
  | .own e v :: as, j, h => by simp only [backArgs, argsOb, Arg.ob, List.nil_append]; exact argsOb_back base as (j + 1) h
  | .mutr _ _ :: _, _, h => by cases h
  | .obj _ :: _, _, h => by cases h

theorem osl_vr {ι : Nat → Loc} {H : LH} {S : Nat → Prop} {w : World} {i e : Nat} {xs : List CV} {v : Value} (hg : LH.get H i = some (.row e xs)) (hv : AVR ι H S w (.osl i 0 xs.length) v) (hr : RowR (ι i) S w e xs) :
    VR w (fun b => S b ∨ ((ι i).isnil = false ∧ b = (ι i).block)) (.sl e xs) v := by
  obtain ⟨hle, hsl⟩ := oslOK_row (avr_osl hv) (.inl hg)
  unfold SliceAt at hsl
  by_cases hn : (ι i).isnil = true
  · rw [if_pos hn] at hsl
    obtain ⟨_, h0, p, rfl⟩ := hsl
    have : xs = [] := List.length_eq_zero_iff.1 h0
    subst this
    exact .slnil e p 0
  · rw [if_neg hn] at hsl
    have hn' : (ι i).isnil = false := by simpa using hn
    rcases hsl with rfl | ⟨h0, p, rfl⟩
    · have := row_vr hr hn'
      simpa using this
    · have : xs = [] := List.length_eq_zero_iff.1 h0
      subst this
      exact .slnil e p 0

theorem CW.pubRes {P : Program} {f : FuncId} {args : List Arg} {e : Nat} {xs : List CV} (hu : unlent args = true) (h : CW P f args ⟨[.own e xs], []⟩) : CW P f args ⟨[.cv (.sl e xs)], []⟩ := by
  obtain ⟨hf, hb, h⟩ := h
  refine ⟨hf, hb, fun ι S w vals hl hav hhr => ?_⟩
  refine (h ι S w vals hl hav hhr).mono fun en w' hp => ?_
  obtain ⟨v, ι', S', rfl, r1, r2, r3, r4, r5, r6, r7⟩ := hp
  have e1 : retOb args ⟨[.own e xs], []⟩ = [(retBase, .row e xs)] := by
    simp only [retOb, List.map_cons, List.map_nil, OC.arg, argsOb, Arg.ob, argsOb_back argBase args 0 hu, List.append_nil, Nat.mul_zero, Nat.add_zero]
  have e2 : retOb args ⟨[.cv (.sl e xs)], []⟩ = [] := by
    simp only [retOb, List.map_cons, List.map_nil, OC.arg, argsOb, Arg.ob, argsOb_back argBase args 0 hu, List.append_nil]
  rw [e1] at r1 r2 r4
  have hg : LH.get [(retBase, LObj.row e xs)] retBase = some (.row e xs) := by simp [LH.get]
  have hrow := r2.row _ _ _ hg
  refine ⟨v, ι', fun b => S' b ∨ ((ι' retBase).isnil = false ∧ b = (ι' retBase).block), rfl, ?_, ?_, r3, ?_, fun b hb => .inl (r5 b hb), fun b hb => ?_, r7⟩
  · rw [e2]
    exact .c _ _ (osl_vr hg r1 hrow)
  · rw [e2]
    refine ⟨fun id cs h => (by cases h), fun id e xs h => (by cases h), fun id e xs h => (by cases h), fun i j hi => (by cases hi), fun i hi => (by cases hi), fun i hi => (by cases hi), fun b hb => ?_⟩
    rcases hb with hb | ⟨hn, rfl⟩
    · exact r2.slt b hb
    · exact r2.lt retBase (by unfold Owned; rw [hg]; exact hn)
  · intro id hid
    rw [e2] at hid
    cases hid
  · rcases hb with hb | ⟨hn, rfl⟩
    · exact r6 b hb
    · have := r4 retBase (by unfold Owned; rw [hg]; exact hn)
      rcases this with h1 | h1
      · exact .inr (.inl h1)
      · exact .inr (.inr h1)
/-- A call that is shown rows of ours and gives back one value that lies nowhere. -/
theorem callK_V {P : Program} {g : Prop} {f : FuncId} {H : List (Nat × LObj)} {u : Nat} {K : AV → List (Nat × LObj) → Prop} {b : Bar K} {args : List Arg} {V : List Nat} {H' : List (Nat × LObj)} (v : CV)
    (h : g → CW P f args ⟨[.cv v], []⟩) (hV : ∀ i ∈ V, isLive H' i) (hs : v.scalar = true) (hu : freshC H u) (h8 : args.length.ble 8 = true) (hun : unlent args = true) (hk : K (.c v) []) : callK P g f H u K b args [] V H' := by
  refine ⟨_, h, hV, .inr ⟨by simp [OC.scalar, hs], by simp⟩, ⟨hu, Nat.le_of_ble_eq_true h8, by simp, by simp⟩, ?_⟩
  simp only [back_none args 0 hun]
  exact hk
theorem retO2 {t t' e : Nat} {xs : List CV} {v : CV} {as : List Arg} {σ : Slots} {H : LH} (hu : unlent as = true) (h : OwnAt e xs (Slots.get σ t) H) (h' : Slots.get σ t' = .c v) :
    topQ [(t, none, .move e), (t', none, .plain)] as [] ⟨[.own e xs, .cv v], []⟩ .ret σ H := by
  refine retW_unlent hu ?_
  rcases h with ⟨h1, rfl⟩ | ⟨i, h1, h2⟩
  · simp only [retVals, argsW, argW, h1, h', ungW]
    exact ⟨rfl, rfl⟩
  · simp only [retVals, argsW, argW, h1, h2, true_and, h', ungW]
    exact ⟨rfl, rfl⟩
theorem retO3 {t t' t'' e : Nat} {xs : List CV} {v v' : CV} {as : List Arg} {σ : Slots} {H : LH} (hu : unlent as = true) (h : OwnAt e xs (Slots.get σ t) H) (h' : Slots.get σ t' = .c v) (h'' : Slots.get σ t'' = .c v') :
    topQ [(t, none, .move e), (t', none, .plain), (t'', none, .plain)] as [] ⟨[.own e xs, .cv v, .cv v'], []⟩ .ret σ H := by
  refine retW_unlent hu ?_
  rcases h with ⟨h1, rfl⟩ | ⟨i, h1, h2⟩
  · simp only [retVals, argsW, argW, h1, h', h'', ungW]
    exact ⟨rfl, rfl⟩
  · simp only [retVals, argsW, argW, h1, h2, true_and, h', h'', ungW]
    exact ⟨rfl, rfl⟩
end Go.Proofs.Ytcpdnpaedkcebaa.V
