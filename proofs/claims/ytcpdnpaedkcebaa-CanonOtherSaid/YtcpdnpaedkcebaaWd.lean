/- Contracts by hand: the bits of a float. -/
import Derived.Test.YtcpdnpaedkcebaaVw
import Derived.Test.YtcpdnpaedkcebaaProg
import Derived.WalkKit
namespace Go.Proofs.Ytcpdnpaedkcebaa.V
open Go Go.RowKit
set_option linter.unusedVariables false
set_option linter.unusedSimpArgs false
set_option maxRecDepth 100000

theorem calls69 (a0 : Nat) (w : World) :
    Calls Try.prog 69 #[.float .f64 a0] w fun e w' => e = .returned (.int .u64 a0) ∧ w'.heap = w.heap ∧ w'.os = w.os ∧ w'.tape = w.tape ∧ w'.output = w.output := by
  have hd : ∀ (b : Nat) (w : World), (callFunc 108 #[.float .f64 b]).run Try.prog w = .ok (.value (.int .u64 b)) w := fun b w => by
    rw [run_callFunc_extern (e := Extern.MathFloatBits.float64bits) Try.func108 (by kernel_rfl) (by kernel_rfl) (by kernel_rfl) (by kernel_rfl)]
    rfl
  go_enter Try.func69, Try.ntmps69
  go_wp2
  go_ret
  exact ⟨rfl, rfl, rfl, rfl, rfl⟩

theorem argsOb_cv (base : Nat) : ∀ (cs : List CV) (j : Nat), argsOb base (cs.map .cv) j = []
  | [], _ => rfl
  | c :: cs, j => by simp only [List.map_cons, argsOb, Arg.ob, List.nil_append]; exact argsOb_cv base cs (j + 1)
theorem argsAV_cv (base : Nat) : ∀ (cs : List CV) (j : Nat), argsAV base (cs.map .cv) j = cs.map .c
  | [], _ => rfl
  | c :: cs, j => by simp only [List.map_cons, argsAV, Arg.av]; rw [argsAV_cv base cs (j + 1)]
theorem backArgs_cv : ∀ (cs : List CV), backArgs (cs.map .cv) [] = (cs.map fun _ => CV.undef).map .cv
  | [] => rfl
  | c :: cs => by simp only [List.map_cons, backArgs]; rw [backArgs_cv cs]
theorem backOK_cv : ∀ (cs : List CV), backOK (cs.map .cv) []
  | [] => trivial
  | c :: cs => backOK_cv cs

/-- A call that reads closed values, touches nothing and gives back one that lies nowhere. -/
theorem CW_pure {P : Program} {f : FuncId} {cs : List CV} {r : CV} (hfn : isFn P f = true) (hr : r.scalar = true)
    (h : ∀ (w : World) (S : Nat → Prop) (vals : List Value), vals.length = cs.length → (∀ j, j < cs.length → VR w S (cs.getD j .undef) (vals.getD j Go.undef)) →
      ∃ v, VR w S r v ∧ Calls P f vals.toArray w fun e w' => e = .returned v ∧ w'.heap = w.heap ∧ w'.os = w.os ∧ w'.tape = w.tape ∧ w'.output = w.output) :
    CW P f (cs.map .cv) ⟨[.cv r], []⟩ := by
  refine ⟨hfn, backOK_cv cs, fun ι S w vals hl hav hhr => ?_⟩
  rw [argsOb_cv] at hav hhr
  have hl' : vals.length = cs.length := by simpa using hl
  obtain ⟨v, hv, hc⟩ := h w S vals hl' (fun j hj => by
    have := hav j (by simpa using hj)
    rw [argsAV_cv] at this
    have e : (cs.map AV.c).getD j (.c .undef) = .c (cs.getD j .undef) := by simp [List.getD_eq_getElem?_getD, hj]
    rw [e] at this
    cases this with
    | c _ _ h => exact h)
  have hro : retOb (cs.map .cv) ⟨[.cv r], []⟩ = [] := by
    unfold retOb
    rw [backArgs_cv, argsOb_cv]
    rfl
  refine hc.mono fun e w' he => ?_
  obtain ⟨rfl, hh, ho, ht, hp⟩ := he
  refine ⟨v, ι, S, rfl, ?_, ?_, fun j hj => .inl rfl, ?_, fun b hb => hb, fun b hb => .inl hb, ⟨ho, ht, hp, by rw [hh]; exact Nat.le_refl _, fun k _ _ => by rw [hh]⟩⟩
  · exact .c _ _ (hv.scalar hr)
  · rw [hro]
    exact ⟨fun id cs h => (by cases h), fun id e xs h => (by cases h), fun id e xs h => (by cases h), fun i j hi => (by cases hi), fun i hi => (by cases hi), fun i hi => (by cases hi), fun b hb => by rw [hh]; exact hhr.slt b hb⟩
  · intro id hid
    rw [hro] at hid
    cases hid
theorem cw69 (x : Nat) : CW Try.prog 69 [.cv (.flt x)] ⟨[.cv (.int .u64 x)], []⟩ :=
  CW_pure (cs := [.flt x]) (by decide +kernel) rfl fun w S vals hl hv => by
    match vals, hl with
    | [v], _ =>
      have h0 := hv 0 (by simp)
      simp only [List.getD_cons_zero] at h0
      cases h0
      exact ⟨_, .int _ _, calls69 x w⟩
end Go.Proofs.Ytcpdnpaedkcebaa.V
