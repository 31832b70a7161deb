/- Contracts by hand: the law's base. -/
import Derived.Test.YtcpdnpaedkcebaaXp
namespace Go.Proofs.Ytcpdnpaedkcebaa.V
open Go Go.RowKit
set_option linter.unusedVariables false
set_option linter.unusedSimpArgs false
set_option maxRecDepth 100000
section
variable {C : Ctx} {ι ι' : Nat → Loc} {S S' : Nat → Prop} {σ σ' : Slots} {H H' : LH} {a a' : Act} {w w' : World}
/-- A slot's value, told otherwise. -/
theorem R.say {t : Nat} {v : AV} (h : R C ι S σ H a w) (hv : AVR ι H S w (Slots.get σ t) (a.tmps.getD t Go.undef) → AVR ι H S w v (a.tmps.getD t Go.undef)) : R C ι S ((t, v) :: σ) H a w :=
  ⟨h.fr, h.hr, fun t' => by
    by_cases e : t = t'
    · subst e; simp only [Slots.get, if_true]; exact hv (h.sl t)
    · simp only [Slots.get, if_neg e]; exact h.sl t', h.own, h.sup, h.sub, h.loc, h.size, h.defs⟩
/-- A record whose list is nil. -/
theorem vr_nil {x0 x1 x2 x3 x5 x6 x7 : CV} {u : Value} (h : VR w S (.agg [x0, x1, x2, x3, .nilsl, x5, x6, x7]) u) : VR w S (.agg [x0, x1, x2, x3, .sl 1 [], x5, x6, x7]) u := by
  cases h with
  | agg cs us hl hu =>
    refine .agg _ us hl fun i hi => ?_
    have := hu i hi
    match i, hi with
    | 0, _ => exact this
    | 1, _ => exact this
    | 2, _ => exact this
    | 3, _ => exact this
    | 4, _ =>
      have this : VR w S .nilsl (us.getD 4 Go.undef) := this
      show VR w S (.sl 1 []) (us.getD 4 Go.undef)
      generalize us.getD 4 Go.undef = x at this
      cases this
      exact .slnil 1 none 0
    | 5, _ => exact this
    | 6, _ => exact this
    | 7, _ => exact this
theorem R.close {t i e : Nat} {xs : List CV} (h : R C ι S σ H a w) (hs : Slots.get σ t = .osl i 0 xs.length) (hg : LH.get H i = some (.row e xs)) : ∃ S', R C ι S' ((t, .c (.sl e xs)) :: σ) (LH.set H i (.vrow e xs)) a w := by
  obtain ⟨S', h'⟩ := h.pub hg
  refine ⟨S', h'.say fun hv => ?_⟩
  rw [hs] at hv
  have hg' : LH.get (LH.set H i (.vrow e xs)) i = some (.vrow e xs) := by rw [LH.get_set, if_pos rfl]
  have hr := h'.hr.vrow _ _ _ hg'
  obtain ⟨_, hsl⟩ := oslOK_row (avr_osl hv) (.inr hg')
  refine .c _ _ ?_
  unfold SliceAt at hsl
  unfold VRowR at hr
  by_cases hn : (ι i).isnil = true
  · rw [if_pos hn] at hsl hr
    obtain ⟨_, _, p, hp⟩ := hsl
    rw [hp, hr]
    exact .slnil e p 0
  · rw [if_neg hn] at hsl hr
    rcases hsl with hp | ⟨h0, p, hp⟩
    · rw [hp]
      simpa using hr
    · rw [hp]
      have : xs = [] := List.length_eq_zero_iff.1 h0
      subst this
      exact .slnil e p 0
end
def e0 : IC := (.reg [⟨(some 0), 0, none, .mv (.c .nilsl)⟩])
theorem chk_e0 : chkC Try.prog Try.f45.ntmps e0 (seqA (codeOf Try.f45)) = true := by decide +kernel
def e1 : IC := .ret
theorem chk_e1 : chkC Try.prog Try.f45.ntmps e1 (seqB (seqB (codeOf Try.f45))) = true := by decide +kernel
theorem split45 : codeOf Try.f45 = .seq (seqA (codeOf Try.f45)) (.seq (.region 1 (opsOf (seqA (seqB (codeOf Try.f45)))) false) (seqB (seqB (codeOf Try.f45)))) := by kernel_rfl
def z1 (f : Func) : Array Oper := opsOf (seqA (seqB (codeOf f)))
def zrec : List CV := [.int .i64 0, .int .i64 0, .int .i64 0, .int .i64 0, .nilsl, .str ⟨#[]⟩, .str ⟨#[]⟩, .flt 0]
def q45a : List IOp := [⟨some 1, 0, none, .bld zrec [(0, .c (.int .i64 1)), (1, .c (.int .i64 97)), (2, .c (.int .i64 122))]⟩, ⟨some 2, 0, none, .bld zrec [(0, .c (.int .i64 1)), (1, .c (.int .i64 48)), (2, .c (.int .i64 57))]⟩, ⟨some 3, 0, none, .bld zrec [(0, .c (.int .i64 1)), (1, .c (.int .i64 45)), (2, .c (.int .i64 46))]⟩, ⟨some 4, 1, none, .bsl 1 [.c (.int .i32 65), .c (.int .i32 768)]⟩]
def q45b : List IOp := [⟨some 5, 0, none, .bld zrec [(0, .c (.int .i64 7)), (1, .c (.int .i64 192)), (2, .c (.int .i64 192)), (4, .t 4)]⟩, ⟨some 6, 0, none, .bld zrec [(0, .c (.int .i64 6)), (1, .c (.int .i64 768)), (2, .c (.int .i64 768)), (3, .c (.int .i64 230))]⟩]
def q45c : List IOp := [⟨some 7, 2, none, .bsl 8 [.t 1, .t 2, .t 3, .t 5, .t 6]⟩, ⟨some 0, 0, none, .mv (.t 7)⟩]
theorem z1_l : (z1 Try.f45).toList = (z1 Try.f45).toList.take 4 ++ (((z1 Try.f45).toList.drop 4).take 2 ++ (z1 Try.f45).toList.drop 6) := by kernel_rfl
theorem z1_a : chkOps Try.prog Try.f45.ntmps (z1 Try.f45) ((z1 Try.f45).toList.take 4) q45a = true := by decide +kernel
theorem z1_b : chkOps Try.prog Try.f45.ntmps (z1 Try.f45) (((z1 Try.f45).toList.drop 4).take 2) q45b = true := by decide +kernel
theorem z1_c : chkOps Try.prog Try.f45.ntmps (z1 Try.f45) ((z1 Try.f45).toList.drop 6) q45c = true := by decide +kernel
def nrec (k lo hi n : Int) : CV := .agg [.int .i64 k, .int .i64 lo, .int .i64 hi, .int .i64 n, .nilsl, .str ⟨#[]⟩, .str ⟨#[]⟩, .flt 0]
theorem w45a (Q : Ex → Slots → LH → Prop) (hQ : ∀ σ H, Has σ [(1, .c (nrec 1 97 122 0)), (2, .c (nrec 1 48 57 0)), (3, .c (nrec 1 45 46 0)), (4, .osl 64 0 2)] → H = [(64, .row 1 (runes [65, 768]))] → Q .norm σ H) : rnC Try.prog (.reg q45a) Q [(0, .c .nilsl)] [] := by
  unfold q45a zrec
  simp only [go_sem, ↓reduceIte, Nat.reduceEqDiff, Nat.reduceMul, Nat.reduceAdd, Nat.reduceDiv, Nat.reduceSub, Nat.reduceLT, Nat.reduceLeDiff, Int.reduceLE, Int.reduceLT, Int.reduceToNat, Int.reduceEq]
  exact hQ _ _ ⟨rfl, rfl, rfl, rfl, trivial⟩ rfl
theorem w45b (Q : Ex → Slots → LH → Prop) (hQ : ∀ σ, Has σ [(1, .c (recP 1 97 122 0 []).cv), (2, .c (recP 1 48 57 0 []).cv), (3, .c (recP 1 45 46 0 []).cv), (5, .c (recP 7 192 192 0 [65, 768]).cv), (6, .c (nrec 6 768 768 230))] → Q .norm σ [(64, .vrow 1 (runes [65, 768]))]) :
    rnC Try.prog (.reg q45b) Q [(4, .c (.sl 1 (runes [65, 768]))), (1, .c (recP 1 97 122 0 []).cv), (2, .c (recP 1 48 57 0 []).cv), (3, .c (recP 1 45 46 0 []).cv)] [(64, .vrow 1 (runes [65, 768]))] := by
  unfold q45b zrec
  simp only [go_sem, ↓reduceIte, Nat.reduceEqDiff, Nat.reduceMul, Nat.reduceAdd, Nat.reduceDiv, Nat.reduceSub, Nat.reduceLT, Nat.reduceLeDiff, Int.reduceLE, Int.reduceLT, Int.reduceToNat, Int.reduceEq]
  exact hQ _ ⟨rfl, rfl, rfl, rfl, rfl, trivial⟩
theorem w45c (Q : Ex → Slots → LH → Prop) (hQ : ∀ σ H, Slots.get σ 0 = .osl 128 0 5 → LH.get H 128 = some (.row 8 (recs baseL)) → Q .norm σ H) :
    rnC Try.prog (.reg q45c) Q [(6, .c (recP 6 768 768 230 []).cv), (1, .c (recP 1 97 122 0 []).cv), (2, .c (recP 1 48 57 0 []).cv), (3, .c (recP 1 45 46 0 []).cv), (5, .c (recP 7 192 192 0 [65, 768]).cv)] [(64, .vrow 1 (runes [65, 768]))] := by
  unfold q45c
  simp only [go_sem, ↓reduceIte, Nat.reduceEqDiff, Nat.reduceMul, Nat.reduceAdd, Nat.reduceDiv, Nat.reduceSub, Nat.reduceLT, Nat.reduceLeDiff, Int.reduceLE, Int.reduceLT, Int.reduceToNat, Int.reduceEq]
  exact hQ _ _ rfl rfl
theorem we0 (Q : Ex → Slots → LH → Prop) (hQ : ∀ σ, Has σ [(0, .c .nilsl)] → Q .norm σ []) : rnC Try.prog e0 Q [] [] := by
  unfold e0
  simp only [go_sem, ↓reduceIte, Nat.reduceEqDiff, Nat.reduceMul, Nat.reduceAdd, Nat.reduceDiv, Nat.reduceSub, Nat.reduceLT, Nat.reduceLeDiff, Int.reduceLE, Int.reduceLT, Int.reduceToNat, Int.reduceEq]
  exact hQ _ ⟨rfl, trivial⟩
theorem we1 (H : LH) (Q : Ex → Slots → LH → Prop) (hg : LH.get H 128 = some (.row 8 (recs baseL))) (hQ : ∀ σ H, Slots.get σ 0 = .osl 128 0 5 → LH.get H 128 = some (.row 8 (recs baseL)) → Q .ret σ H) : rnC Try.prog e1 Q [(0, .osl 128 0 5)] H := by
  unfold e1
  simp only [go_sem, ↓reduceIte, Nat.reduceEqDiff, Nat.reduceMul, Nat.reduceAdd, Nat.reduceDiv, Nat.reduceSub, Nat.reduceLT, Nat.reduceLeDiff, Int.reduceLE, Int.reduceLT, Int.reduceToNat, Int.reduceEq]
  exact hQ _ _ rfl hg
def rs45 : List (Nat × Option Nat × Mode) := [(0, none, .move 8)]
theorem n45 : Try.f45.ntmps = 8 := by kernel_rfl
theorem cw45 : CW Try.prog 45 [] ⟨[.own 8 (recs baseL)], []⟩ := by
  refine CW.hand (c := codeOf Try.f45) rs45 [] Try.func45 (by kernel_rfl) (by decide +kernel) (by decide +kernel) (Nat.zero_le _) (Nat.zero_le _) trivial (fun C ι S a w hn hO' hR => ?_)
  have hR : R C ι S [] [] a w := hR
  rw [split45]
  refine wp_seq (code_sound (C := C) e0 _ (by rw [hn]; exact chk_e0) hR (rn_ok _ (fun _ _ _ h => h) (we0 (fun e σ H => e = .norm ∧ Has σ [(0, .c .nilsl)] ∧ H = []) fun σ h => ⟨rfl, h, rfl⟩)) fun e ι1 S1 σ1 H1 a1 w1 hq h1 => ?_)
  obtain ⟨rfl, hs1, rfl⟩ := hq
  have h1 := R.weak h1 hs1
  refine wp_seq (wp_region_list ?_)
  show wpList Try.prog (z1 Try.f45) _ (z1 Try.f45).toList a1 w1
  rw [z1_l]
  refine opsP_sound (C := C) _ q45a (by rw [hn]; exact z1_a) h1 (rn_ok (.reg q45a) (fun _ _ _ h => h) (w45a (fun e σ H => e = .norm ∧ Has σ [(1, .c (nrec 1 97 122 0)), (2, .c (nrec 1 48 57 0)), (3, .c (nrec 1 45 46 0)), (4, .osl 64 0 2)] ∧ H = [(64, .row 1 (runes [65, 768]))]) fun σ H h h' => ⟨rfl, h, h'⟩)) fun ι2 S2 σ2 H2 a2 w2 hq h2 => ?_
  obtain ⟨_, hs2, rfl⟩ := hq
  have h2 := R.weak h2 hs2
  have hg2 : LH.get [(64, LObj.row 1 (runes [65, 768]))] 64 = some (.row 1 (runes [65, 768])) := rfl
  obtain ⟨S3, h3⟩ := h2.close (t := 4) rfl hg2
  have h3 := h3.say (t := 1) (v := .c (recP 1 97 122 0 []).cv) fun hv => .c _ _ (vr_nil (avr_c (v := nrec 1 97 122 0) hv))
  have h3 := h3.say (t := 2) (v := .c (recP 1 48 57 0 []).cv) fun hv => .c _ _ (vr_nil (avr_c (v := nrec 1 48 57 0) hv))
  have h3 := h3.say (t := 3) (v := .c (recP 1 45 46 0 []).cv) fun hv => .c _ _ (vr_nil (avr_c (v := nrec 1 45 46 0) hv))
  have h3 : R C ι2 S3 _ [(64, .vrow 1 (runes [65, 768]))] a2 w2 := h3
  have h3 := R.weak (l := [(4, .c (.sl 1 (runes [65, 768]))), (1, .c (recP 1 97 122 0 []).cv), (2, .c (recP 1 48 57 0 []).cv), (3, .c (recP 1 45 46 0 []).cv)]) h3 ⟨rfl, rfl, rfl, rfl, trivial⟩
  refine opsP_sound (C := C) _ q45b (by rw [hn]; exact z1_b) h3 (rn_ok (.reg q45b) (fun _ _ _ h => h) (w45b (fun e σ H => e = .norm ∧ Has σ [(1, .c (recP 1 97 122 0 []).cv), (2, .c (recP 1 48 57 0 []).cv), (3, .c (recP 1 45 46 0 []).cv), (5, .c (recP 7 192 192 0 [65, 768]).cv), (6, .c (nrec 6 768 768 230))] ∧ H = [(64, .vrow 1 (runes [65, 768]))]) fun σ h => ⟨rfl, h, rfl⟩)) fun ι4 S4 σ4 H4 a4 w4 hq h4 => ?_
  obtain ⟨_, hs4, rfl⟩ := hq
  have h4 := R.weak h4 hs4
  have h4 := h4.say (t := 6) (v := .c (recP 6 768 768 230 []).cv) fun hv => .c _ _ (vr_nil (avr_c (v := nrec 6 768 768 230) hv))
  have h4 := R.weak (l := [(6, .c (recP 6 768 768 230 []).cv), (1, .c (recP 1 97 122 0 []).cv), (2, .c (recP 1 48 57 0 []).cv), (3, .c (recP 1 45 46 0 []).cv), (5, .c (recP 7 192 192 0 [65, 768]).cv)]) h4 ⟨rfl, rfl, rfl, rfl, rfl, trivial⟩
  refine ops_sound (C := C) _ q45c (by rw [hn]; exact z1_c) h4 (rn_ok (.reg q45c) (fun _ _ _ h => h) (w45c (fun e σ H => e = .norm ∧ Slots.get σ 0 = .osl 128 0 5 ∧ LH.get H 128 = some (.row 8 (recs baseL))) fun σ H h h' => ⟨rfl, h, h'⟩)) fun ι5 S5 σ5 H5 a5 w5 hq h5 => ?_
  obtain ⟨_, hs5, hg5⟩ := hq
  have h5 := R.weak (l := [(0, .osl 128 0 5)]) h5 ⟨hs5, trivial⟩
  refine code_sound (C := C) e1 _ (by rw [hn]; exact chk_e1) h5 (rn_ok _ (fun _ _ _ h => h) (we1 H5 (fun e σ H => e = .ret ∧ Slots.get σ 0 = .osl 128 0 5 ∧ LH.get H 128 = some (.row 8 (recs baseL))) hg5 fun σ H h h' => ⟨rfl, h, h'⟩)) fun e ι6 S6 σ6 H6 a6 w6 hq h6 => ?_
  obtain ⟨rfl, hs6, hg6⟩ := hq
  exact ⟨.inr rfl, ι6, S6, σ6, H6, h6, retO rfl (own_at hs6 rfl hg6)⟩
end Go.Proofs.Ytcpdnpaedkcebaa.V
