/- Contracts by hand: canon.Full, that recovers. -/
import Derived.Test.YtcpdnpaedkcebaaXg
import Derived.Defers
import Derived.Recover
import Derived.Tactics2
namespace Go.Proofs.Ytcpdnpaedkcebaa.V
open Go Go.RowKit
set_option linter.unusedVariables false
set_option linter.unusedSimpArgs false
set_option maxRecDepth 100000

theorem ta_yes (n : Int) (w : World) : (Instr.typeAssert (.iface 33 (.int .i64 n)) 20 33 true).run Try.prog w = .ok (.tuple #[.int .i64 n, .bool true]) w := by kernel_rfl
theorem ta_no (w : World) : (Instr.typeAssert .nilIface 20 33 true).run Try.prog w = .ok (.tuple #[.int .i64 0, .bool false]) w := by kernel_rfl
theorem full_idle (p q : Addr) (w : World) :
    CallsD Try.prog 47 #[.pointer (some p), .pointer (some q)] .returning w fun e u' w' => e = .returned (.tuple #[]) ∧ u' = .returning ∧ w' = w := by
  refine callsD_of_wpS Try.func47 rfl fun c₀ cs hu => ?_
  apply wpS_seq
  apply wpS_region
  simp [wpOpsS, go_sem, recoverD, hu, Try.ntmps47, Exit.thenS, ta_no]
  apply wpS_seq
  apply wpS_region
  simp [wpOpsS, go_sem, Exit.thenS]
  refine wpS_cond (t := false) (by simp [Act.eval]) ?_
  simp only [Bool.false_eq_true, if_false]
  refine wpS_of_wp (wp_skip ?_)
  cases c₀
  simp_all [bodyPostS, results, Try.results47]
theorem full_catch (p q : Addr) (x : Value) (n m : Int) (w : World) (hc : w.cell? p = some x) (hz : w.frozen? p = false) (hc2 : w.cell? q = some (.int .i64 m)) (hz2 : w.frozen? q = false) (hpq : p ≠ q) :
    CallsD Try.prog 47 #[.pointer (some p), .pointer (some q)] (.panicking [{ v := .iface 33 (.int .i64 n), recovered := false }]) w fun e u' w' =>
      e = .returned (.tuple #[]) ∧ u' = .panicking [{ v := .iface 33 (.int .i64 n), recovered := true }] ∧ w' = (w.setCell p (.slice none 0 0)).setCell q (.int .i64 n) := by
  refine callsD_of_wpS Try.func47 rfl fun c₀ cs hu => ?_
  apply wpS_seq
  apply wpS_region
  simp [wpOpsS, go_sem, recoverD, hu, Try.ntmps47, Exit.thenS, ta_yes]
  apply wpS_seq
  apply wpS_region
  simp [wpOpsS, go_sem, Exit.thenS]
  refine wpS_cond (t := true) (by simp [Act.eval]) ?_
  simp only [if_true]
  apply wpS_region
  have h1 : (w.setCell p (.slice none 0 0)).cell? q = some (.int .i64 m) := by rw [World.cell?_setCell_other]; exact hc2; exact hpq
  have h2 : (w.setCell p (.slice none 0 0)).frozen? q = false := by simpa using hz2
  simp [wpOpsS, go_sem, hc, hz, h1, h2, bodyPostS, results, Try.results47]
def seqA : Code → Code
  | .seq a _ => a
  | _ => .skip
def seqB : Code → Code
  | .seq _ b => b
  | _ => .skip
def codeOf (f : Func) : Code := f.body.getD .skip
def opsOf : Code → Array Oper
  | .region _ ops _ => ops
  | _ => #[]
theorem split24 : codeOf Try.f24 = .seq (seqA (codeOf Try.f24)) (.seq (.region 1 (opsOf (seqA (seqB (codeOf Try.f24)))) false) (seqB (seqB (codeOf Try.f24)))) := by kernel_rfl
def ia24 : IC := .reg [⟨some 4, 1, none, .alloc [.nilsl]⟩, ⟨some 5, 2, none, .alloc [.int .i64 0]⟩]
def ib24 : IC := .seq (.reg [⟨some 8, 0, none, .mv (.t 0)⟩, ⟨some 9, 0, none, .bld [.nilsl, .nilsl, .nilsl] [(0, .t 8)]⟩, ⟨some 10, 3, none, .box (.t 9)⟩, ⟨some 6, 0, none, .mv (.t 10)⟩])
  (.seq (.regc [⟨some 11, 0, none, .mv (.t 6)⟩, ⟨some 12, 0, none, .mv (.t 1)⟩] (some 13) 10 (.c (.fn 48)) [(.t 11, .ptr [none, some 1, some 1]), (.t 12, .plain)])
  (.seq (.reg [⟨some 14, 0, none, .mv (.t 6)⟩, ⟨some 15, 0, none, .nck (.t 14)⟩, ⟨some 16, 0, none, .fa (.t 15) 1⟩, ⟨some 17, 0, none, .ld (.t 16) none⟩, ⟨none, 0, none, .st (.t 4) (.t 17) none⟩, ⟨none, 0, none, .st (.t 5) (.c (.int .i64 0)) none⟩]) .ret))
theorem chka24 : chkC Try.prog Try.f24.ntmps ia24 (seqA (codeOf Try.f24)) = true := by decide +kernel
theorem chkb24 : chkC Try.prog Try.f24.ntmps ib24 (seqB (seqB (codeOf Try.f24))) = true := by decide +kernel
def rs24 : List (Nat × Option Nat × Mode) := [(4, some 0, .move 1), (5, some 0, .plain)]
theorem chkr24 : chkRet Try.prog Try.f24.results.toList rs24 = true := by decide +kernel

def s24 (l : List Rec) (c : Int) : Slots := [(5, .ref 128 0), (4, .ref 64 0), (0, .c (.sl 8 (recs l))), (1, .c (.int .i32 c))]
def h24 : LH := [(64, .obj [.c .nilsl]), (128, .obj [.c (.int .i64 0)])]
theorem wa24 (l : List Rec) (c : Int) (Q : Ex → Slots → LH → Prop) (hQ : Q .norm (s24 l c) h24) : rnC Try.prog ia24 Q [(0, .c (.sl 8 (recs l))), (1, .c (.int .i32 c))] [] := by
  unfold ia24
  simp only [go_sem, ↓reduceIte, Nat.reduceEqDiff, Nat.reduceMul, Nat.reduceAdd, Nat.reduceDiv, Nat.reduceSub, Nat.reduceLT, Nat.reduceLeDiff, Int.reduceLE, Int.reduceLT, Int.reduceToNat, Int.reduceEq]
  exact hQ
def s24b (l : List Rec) (c : Int) : Slots := [(5, .ref 3000384 0), (4, .ref 3000320 0), (0, .c (.sl 8 (recs l))), (1, .c (.int .i32 c))]
def h24b : LH := [(3000320, .obj [.c .nilsl]), (3000384, .obj [.c (.int .i64 0)])]
theorem wb24 (l : List Rec) (c : Int) (hl : ∀ r ∈ l, r.ok) (hn : l.length < 9223372036854775808) (hto : ∀ r ∈ l, r.to.length ≤ 35184372088832) (hc : i32ok c) (Q : Ex → Slots → LH → Prop)
    (hok : ∀ x, fullL l c = .ok x → ∀ σ H r, Slots.get σ 4 = .ref 3000320 0 → Slots.get σ 5 = .ref 3000384 0 → r ≠ 3000320 → r ≠ 3000384 → LH.get H 3000320 = some (.obj [.osl r 0 x.length]) → LH.get H r = some (.row 1 (runes x)) → LH.get H 3000384 = some (.obj [.c (.int .i64 0)]) → Q .ret σ H)
    (herr : ∀ e, fullL l c = .error e → ∀ σ H, Slots.get σ 4 = .ref 3000320 0 → Slots.get σ 5 = .ref 3000384 0 → LH.get H 3000320 = some (.obj [.c .nilsl]) → LH.get H 3000384 = some (.obj [.c (.int .i64 0)]) → Q (.pan 33 .i64 e) σ H) :
    rnC Try.prog ib24 Q (s24b l c) h24b := by
  obtain ⟨d1, d2⟩ := cwDown l hl hn hto 16 c [] [] hc (by decide) (by decide)
  unfold ib24 s24b h24b
  simp only [go_sem, ↓reduceIte, Nat.reduceEqDiff, Nat.reduceMul, Nat.reduceAdd, Nat.reduceDiv, Nat.reduceSub, Nat.reduceLT, Nat.reduceLeDiff, Int.reduceLE, Int.reduceLT, Int.reduceToNat, Int.reduceEq]
  cases hx : fullL l c with
  | error er =>
    exact .inr ⟨by simp only [go_sem, ↓reduceIte, Nat.reduceEqDiff, Nat.reduceMul, Nat.reduceAdd, Nat.reduceDiv, Nat.reduceSub, Nat.reduceLT, Nat.reduceLeDiff, Int.reduceLE, Int.reduceLT, Int.reduceToNat, Int.reduceEq], 33, .i64, er, d2 er hx, herr er hx _ _ rfl rfl rfl rfl⟩
  | ok x =>
    left
    refine callK_i ⟨[], [[.cv (.sl 8 (recs l)), .own 1 (runes x), .own 1 (runes [])]]⟩ (fun _ => d1 x hx) ⟨by simp only [go_sem, ↓reduceIte, Nat.reduceEqDiff, Nat.reduceMul, Nat.reduceAdd, Nat.reduceDiv, Nat.reduceSub, Nat.reduceLT, Nat.reduceLeDiff, Int.reduceLE, Int.reduceLT, Int.reduceToNat, Int.reduceEq], .inl rfl, ⟨by simp only [go_sem, ↓reduceIte, Nat.reduceEqDiff, Nat.reduceMul, Nat.reduceAdd, Nat.reduceDiv, Nat.reduceSub, Nat.reduceLT, Nat.reduceLeDiff, Int.reduceLE, Int.reduceLT, Int.reduceToNat, Int.reduceEq], by simp, by simp, by simp⟩, ?_⟩
    simp only [go_sem, ↓reduceIte, Nat.reduceEqDiff, Nat.reduceMul, Nat.reduceAdd, Nat.reduceDiv, Nat.reduceSub, Nat.reduceLT, Nat.reduceLeDiff, Int.reduceLE, Int.reduceLT, Int.reduceToNat, Int.reduceEq]
    exact hok x hx _ _ 706 rfl rfl (by decide) (by decide) rfl rfl rfl
theorem ret24 {l : List Rec} {c : Int} {y : List Int} {n : Int} {v : AV} {σ : Slots} {H : LH} (h4 : Slots.get σ 4 = .ref 3000320 0) (h5 : Slots.get σ 5 = .ref 3000384 0) (g4 : LH.get H 3000320 = some (.obj [v])) (hv : OwnAt 1 (runes y) v H)
    (g5 : LH.get H 3000384 = some (.obj [.c (.int .i64 n)])) : retW σ H rs24 [.cv (.sl 8 (recs l)), .cv (.int .i32 c)] [] ⟨[.own 1 (runes y), .cv (.int .i64 n)], []⟩ := by
  refine retW_unlent rfl ?_
  have z : ¬ (False : Prop) := id
  rcases hv with ⟨h1, h2⟩ | ⟨i, h1, h2⟩
  · subst h1
    simp only [rs24, retVals, loadW, ungW, h4, h5, g4, g5, if_true, argsW, argW, List.getD_cons_zero, List.length_cons, List.length_nil]
    rw [h2]
    exact ⟨by decide, by decide, rfl, rfl⟩
  · subst h1
    simp only [rs24, retVals, loadW, ungW, h4, h5, g4, g5, if_true, argsW, argW, List.getD_cons_zero, List.length_cons, List.length_nil, h2, true_and]
    exact ⟨by decide, by decide, rfl, rfl⟩
def opAt (f : Func) (k : Nat) : Oper := (opsOf (seqA (seqB (codeOf f)))).toList.getD k default
theorem ops24 : (opsOf (seqA (seqB (codeOf Try.f24)))).toList = [opAt Try.f24 0, opAt Try.f24 1] := by kernel_rfl
theorem oa24_op : (opAt Try.f24 0).op = .makeFunc (.func 47) #[] #[.tmp 4, .tmp 5] ∧ (opAt Try.f24 0).dst = some 7 ∧ (opAt Try.f24 0).guard = none := ⟨by kernel_rfl, by kernel_rfl, by kernel_rfl⟩
theorem ob24_op : (opAt Try.f24 1).op = .defer ⟨.value (.tmp 7), #[], #[]⟩ ∧ (opAt Try.f24 1).dst = none ∧ (opAt Try.f24 1).guard = none := ⟨by kernel_rfl, by kernel_rfl, by kernel_rfl⟩
theorem cw24 (l : List Rec) (hl : ∀ r ∈ l, r.ok) (hn : l.length < 9223372036854775808) (hto : ∀ r ∈ l, r.to.length ≤ 35184372088832) (c : Int) (hc : i32ok c) :
    CW Try.prog 24 [.cv (.sl 8 (recs l)), .cv (.int .i32 c)] ⟨[.own 1 (runes (resL (fullL l c))), .cv (.int .i64 (resE (fullL l c)))], []⟩ := by
  refine ⟨by decide +kernel, trivial, fun ι S w vals hvl hva hhr => ?_⟩
  refine calls_of_wp_defers (c := codeOf Try.f24) Try.func24 (by kernel_rfl) ?_
  have hR := start_R (fn := Try.f24) (args := [.cv (.sl 8 (recs l)), .cv (.int .i32 c)]) (by show 2 ≤ Try.f24.ntmps; decide +kernel) hvl hva hhr
  rw [split24]
  refine wp_seq (code_sound (C := ⟨w, _, S, ι, Try.f24.ntmps, []⟩) ia24 _ chka24 hR (rn_ok _ (fun _ _ _ h => h) (wa24 l c (fun e σ H => e = .norm ∧ σ = s24 l c ∧ H = h24) ⟨rfl, rfl, rfl⟩)) (fun e ι1 S1 σ1 H1 a1 w1 hq h1 => ?_))
  obtain ⟨rfl, rfl, rfl⟩ := hq
  have h1 : R _ ι1 S1 (s24 l c) h24 a1 w1 := h1
  have q4 : a1.tmps.getD 4 Go.undef = .pointer (some ⟨(ι1 64).block, (ι1 64).off, none⟩) := (refOK_obj (avr_ref (h1.sl 4)) rfl).2
  have q5 : a1.tmps.getD 5 Go.undef = .pointer (some ⟨(ι1 128).block, (ι1 128).off, none⟩) := (refOK_obj (avr_ref (h1.sl 5)) rfl).2
  have hsz : a1.tmps.size = Try.f24.ntmps := h1.size
  have hnt : Try.f24.ntmps = 18 := by kernel_rfl
  have ho24 := ops24
  obtain ⟨m1, m2, m3⟩ := oa24_op
  obtain ⟨n1, n2, n3⟩ := ob24_op
  generalize opAt Try.f24 0 = oa24 at m1 m2 m3 ho24
  generalize opAt Try.f24 1 = ob24 at n1 n2 n3 ho24
  refine wp_seq (wp_region_list ?_)
  rw [ho24]
  have w1' : ∀ ys, Region.wanted oa24 ys = true := fun ys => by simp [Region.wanted, m3]
  have w2' : ∀ ys, Region.wanted ob24 ys = true := fun ys => by simp [Region.wanted, n3]
  unfold wpList
  rw [if_pos (w1' _)]
  left
  unfold Oper.wp
  have r1 : (execOp a1.eval oa24).run Try.prog w1 = .ok (.value (.func (.func 47) #[] #[a1.tmps.getD 4 Go.undef, a1.tmps.getD 5 Go.undef])) w1 := by
    simp [execOp, m1, Instr.makeFunc, Act.eval, Sem.run, pure, bind, Sem.bind]
  rw [r1, Oper.upon_value, m2]
  unfold wpList
  rw [if_pos (w2' _)]
  left
  unfold Oper.wp
  have r2 : (execOp (a1.put (some 7) (.func (.func 47) #[] #[a1.tmps.getD 4 Go.undef, a1.tmps.getD 5 Go.undef])).eval ob24).run Try.prog w1 = .ok (.defer { target := .fn (.func 47) #[a1.tmps.getD 4 Go.undef, a1.tmps.getD 5 Go.undef], args := #[] }) w1 := by
    have e7 : (a1.put (some 7) (.func (.func 47) #[] #[a1.tmps.getD 4 Go.undef, a1.tmps.getD 5 Go.undef])).eval (.tmp 7) = .func (.func 47) #[] #[a1.tmps.getD 4 Go.undef, a1.tmps.getD 5 Go.undef] := by
      have : 7 < a1.tmps.size := by omega
      simp [Act.eval, Act.put, this]
    simp only [execOp, n1, resolve, e7]
    simp [Deferred.ofValue, Sem.run, pure, bind, Sem.bind]
  rw [r2, Oper.upon_defer, n2]
  unfold wpList
  show Code.wp Try.prog (seqB (seqB (codeOf Try.f24))) _ _ _
  generalize hq4 : a1.tmps.getD 4 Go.undef = v4 at q4
  generalize hq5 : a1.tmps.getD 5 Go.undef = v5 at q5
  subst q4 q5
  have hg64 : LH.get h24 64 = some (.obj [.c .nilsl]) := rfl
  have hg128 : LH.get h24 128 = some (.obj [.c (.int .i64 0)]) := rfl
  have o64 := h1.hr.obj _ _ hg64
  have o128 := h1.hr.obj _ _ hg128
  have w64 : Owned ι1 h24 64 := by unfold Owned; rw [hg64]; trivial
  have w128 : Owned ι1 h24 128 := by unfold Owned; rw [hg128]; trivial
  have hne : (ι1 64).block ≠ (ι1 128).block := fun e => absurd (h1.hr.inj 64 128 w64 w128 e) (by decide)
  have noH : ∀ (ι : Nat → Loc) (b : Nat), ¬ Handed ι (argsOb argBase [.cv (.sl 8 (recs l)), .cv (.int .i32 c)] 0) b := fun ι b ⟨id, ho, _⟩ => ho
  generalize hD : ({ target := .fn (.func 47) #[.pointer (some ⟨(ι1 64).block, (ι1 64).off, none⟩), .pointer (some ⟨(ι1 128).block, (ι1 128).off, none⟩)], args := #[] } : Deferred) = D
  obtain ⟨ι3, i64, i128, i0⟩ : ∃ ι3 : Nat → Loc, ι3 3000320 = ι1 64 ∧ ι3 3000384 = ι1 128 ∧ ∀ id, id ≠ 3000320 → id ≠ 3000384 → ι3 id = ι1 id :=
    ⟨fun id => if id = 3000320 then ι1 64 else if id = 3000384 then ι1 128 else ι1 id, by simp, by simp, fun id h h' => by simp [h, h']⟩
  have own3 : ∀ id, Owned ι3 h24b id → (id = 3000320 ∨ id = 3000384) := fun id ho => by
    unfold Owned h24b at ho
    by_cases e1 : 3000320 = id
    · exact .inl e1.symm
    · by_cases e2 : 3000384 = id
      · exact .inr e2.symm
      · simp [LH.get, e1, e2] at ho
  have hR3 : R ⟨w, Handed ι3 (argsOb argBase [.cv (.sl 8 (recs l)), .cv (.int .i32 c)] 0), S, ι3, Try.f24.ntmps, [D]⟩ ι3 S1 (s24b l c) h24b ({ (a1.put (some 7) (.func (.func 47) #[] #[.pointer (some ⟨(ι1 64).block, (ι1 64).off, none⟩), .pointer (some ⟨(ι1 128).block, (ι1 128).off, none⟩)])) with defers := D :: a1.defers }.put none undef) w1 := by
    refine ⟨⟨h1.fr.os, h1.fr.tape, h1.fr.output, h1.fr.size, fun k hk _ => h1.fr.block k hk (noH _ _)⟩, ?_, fun t => ?_, fun id ho => ?_, fun b hb => ?_, h1.sub, fun id ob hg ho hge => rfl, ?_, ?_⟩
    · refine ⟨fun id cs hg => ?_, fun id e xs hg => ?_, fun id e xs hg => ?_, fun a b ha hb e => ?_, fun a ha => ?_, fun a ha => ?_, h1.hr.slt⟩
      · have hid : Owned ι3 h24b id := by unfold Owned; rw [hg]; trivial
        rcases own3 id hid with rfl | rfl
        · have : cs = [.c .nilsl] := by injection hg with hg; injection hg with hg; exact hg.symm
          subst this
          rw [i64]
          intro k hk
          obtain ⟨x, hx1, hx2, hx3⟩ := o64 k hk
          have : k = 0 := by simpa using hk
          subst this
          exact ⟨x, hx1, hx2, .c _ _ (avr_c hx3)⟩
        · have : cs = [.c (.int .i64 0)] := by injection hg with hg; injection hg with hg; exact hg.symm
          subst this
          rw [i128]
          intro k hk
          obtain ⟨x, hx1, hx2, hx3⟩ := o128 k hk
          have : k = 0 := by simpa using hk
          subst this
          exact ⟨x, hx1, hx2, .c _ _ (avr_c hx3)⟩
      · exfalso
        have hm := mem_of_get hg
        simp [h24b] at hm
      · exfalso
        have hm := mem_of_get hg
        simp [h24b] at hm
      · rcases own3 a ha with rfl | rfl <;> rcases own3 b hb with rfl | rfl
        · rfl
        · rw [i64, i128] at e; exact absurd e hne
        · rw [i64, i128] at e; exact absurd e.symm hne
        · rfl
      · rcases own3 a ha with rfl | rfl
        · rw [i64]; exact h1.hr.disj 64 w64
        · rw [i128]; exact h1.hr.disj 128 w128
      · rcases own3 a ha with rfl | rfl
        · rw [i64]; exact h1.hr.lt 64 w64
        · rw [i128]; exact h1.hr.lt 128 w128
    · have hsl := h1.sl t
      by_cases e7 : t = 7
      · subst e7; exact AVR.undef _
      have e : (({ (a1.put (some 7) (.func (.func 47) #[] #[.pointer (some ⟨(ι1 64).block, (ι1 64).off, none⟩), .pointer (some ⟨(ι1 128).block, (ι1 128).off, none⟩)])) with defers := D :: a1.defers } : Act).put none undef).tmps.getD t Go.undef = a1.tmps.getD t Go.undef := by
        simp [Act.put, Array.getElem?_setIfInBounds_ne (Ne.symm e7)]
      rw [e]
      by_cases e5 : t = 5
      · subst e5
        rw [hq5]
        refine .ref _ _ _ ?_
        show 0 ≤ 1 ∧ _ = Value.pointer (some ⟨(ι3 3000384).block, (ι3 3000384).off + 0, none⟩)
        rw [i128]; exact ⟨by decide, rfl⟩
      by_cases e4 : t = 4
      · subst e4
        rw [hq4]
        refine .ref _ _ _ ?_
        show 0 ≤ 1 ∧ _ = Value.pointer (some ⟨(ι3 3000320).block, (ι3 3000320).off + 0, none⟩)
        rw [i64]; exact ⟨by decide, rfl⟩
      have ea : Slots.get (s24b l c) t = Slots.get (s24 l c) t := by simp [s24b, s24, Slots.get, Ne.symm e5, Ne.symm e4]
      rw [ea]
      have hcl : ∃ x, Slots.get (s24 l c) t = .c x := by
        simp only [s24, Slots.get, if_neg (Ne.symm e5), if_neg (Ne.symm e4)]
        split
        · exact ⟨_, rfl⟩
        · split <;> exact ⟨_, rfl⟩
      obtain ⟨x, hx⟩ := hcl
      rw [hx] at hsl ⊢
      exact .c _ _ (avr_c hsl)
    · rcases own3 id ho with rfl | rfl
      · rw [i64]; rcases h1.own 64 w64 with h | h
        · exact absurd h (noH _ _)
        · exact .inr h
      · rw [i128]; rcases h1.own 128 w128 with h | h
        · exact absurd h (noH _ _)
        · exact .inr h
    · rcases h1.sup b hb with h | h | h
      · exact .inl h
      · exact absurd h (noH _ _)
      · exact .inr (.inr h)
    · simp [Act.put, hsz]
    · show D :: a1.defers = [D]
      rw [h1.defs]
  refine code_sound ib24 _ chkb24 hR3
    (rn_ok _ (fun _ _ _ h => h) (wb24 l c hl hn hto hc (fun e σ H => Slots.get σ 4 = .ref 3000320 0 ∧ Slots.get σ 5 = .ref 3000384 0 ∧ ((∃ x r, e = .ret ∧ fullL l c = .ok x ∧ LH.get H 3000320 = some (.obj [.osl r 0 x.length]) ∧ LH.get H r = some (.row 1 (runes x)) ∧ LH.get H 3000384 = some (.obj [.c (.int .i64 0)])) ∨
      ∃ er, e = .pan 33 .i64 er ∧ fullL l c = .error er ∧ LH.get H 3000320 = some (.obj [.c .nilsl]) ∧ LH.get H 3000384 = some (.obj [.c (.int .i64 0)])))
      (fun x hx σ H r h4 h5 _ _ g1 g2 g3 => ⟨h4, h5, .inl ⟨x, r, rfl, hx, g1, g2, g3⟩⟩) (fun er he σ H h4 h5 g1 g3 => ⟨h4, h5, .inr ⟨er, rfl, he, g1, g3⟩⟩))) (fun e ι2 S2 σ2 H2 a2 w2 hq h2 => ?_)
  have h2 : R _ ι2 S2 σ2 H2 a2 w2 := h2
  have post : ∀ {σ3 : Slots} {H3 : LH} {w3 : World} {out : Out}, R ⟨w, Handed ι3 (argsOb argBase [.cv (.sl 8 (recs l)), .cv (.int .i32 c)] 0), S, ι3, Try.f24.ntmps, [D]⟩ ι2 S2 σ3 H3 a2 w3 → retW σ3 H3 rs24 [.cv (.sl 8 (recs l)), .cv (.int .i32 c)] [] out → out.back = [] →
      ∃ v, (results Try.f24 a2.tmps).run Try.prog w3 = .ok v w3 ∧ (∃ v_1 ι' S', Ending.returned v = .returned v_1 ∧
      AVR ι' (retOb [.cv (.sl 8 (recs l)), .cv (.int .i32 c)] out) S' w3 (retAV out.res) v_1 ∧ HR ι' S' (retOb [.cv (.sl 8 (recs l)), .cv (.int .i32 c)] out) w3 ∧
      (∀ j, j < [Arg.cv (.sl 8 (recs l)), .cv (.int .i32 c)].length → ι' (argBase + 64 * j) = ι (argBase + 64 * j) ∨ ([Arg.cv (.sl 8 (recs l)), .cv (.int .i32 c)].getD j (.cv .undef)).lent = false) ∧
      (∀ id, Owned ι' (retOb [.cv (.sl 8 (recs l)), .cv (.int .i32 c)] out) id → Handed ι (argsOb argBase [.cv (.sl 8 (recs l)), .cv (.int .i32 c)] 0) (ι' id).block ∨ w.heap.size ≤ (ι' id).block) ∧
      (∀ b, S b → S' b) ∧ (∀ b, S' b → S b ∨ Handed ι (argsOb argBase [.cv (.sl 8 (recs l)), .cv (.int .i32 c)] 0) b ∨ w.heap.size ≤ b) ∧
      Fr (Handed ι (argsOb argBase [.cv (.sl 8 (recs l)), .cv (.int .i32 c)] 0)) w w3) := by
    intro σ3 H3 w3 out h3 hrw hb
    obtain ⟨v, hv, v', ι', S', e1, e2, e3, e4, e5, e6, e7, e8⟩ := fin_sound (args := [.cv (.sl 8 (recs l)), .cv (.int .i32 c)]) (out := out) rfl chkr24 (by simp) trivial (by rw [hb]; trivial) h3 hrw
    refine ⟨v, hv, v', ι', S', e1, e2, e3, fun j hj => .inr ?_, fun id ho => (e5 id ho).imp (fun h => absurd h (noH _ _)) (fun h => h), e6, fun b hb => ?_, ⟨e8.os, e8.tape, e8.output, e8.size, fun k hk _ => e8.block k hk (noH _ _)⟩⟩
    · match j, hj with
      | 0, _ => rfl
      | 1, _ => rfl
    · rcases e7 b hb with h | h | h
      · exact .inl h
      · exact absurd h (noH _ _)
      · exact .inr (.inr h)
  obtain ⟨h4, h5, hq⟩ := hq
  have hdef : a2.defers = [D] := h2.defs
  rcases hq with ⟨x, r, rfl, hx, g1, g2, g3⟩ | ⟨er, rfl, he, g1, g3⟩
  · show Leaves Try.prog Try.f24 a2.tmps _ a2.defers .returning w2
    rw [hdef, ← hD]
    refine leaves_cons (f := 47) (args := #[.pointer (some ⟨(ι1 64).block, (ι1 64).off, none⟩), .pointer (some ⟨(ι1 128).block, (ι1 128).off, none⟩)]) (by simp) (by simp [go_sem]) ?_
    refine (full_idle _ _ w2).mono ?_
    rintro e u' w'' ⟨rfl, rfl, rfl⟩
    rw [hx]
    exact post (out := ⟨[.own 1 (runes x), .cv (.int .i64 0)], []⟩) h2 (ret24 (v := .osl r 0 x.length) h4 h5 g1 (.inr ⟨r, by rw [runes_len], g2⟩) g3) rfl
  · show Leaves Try.prog Try.f24 a2.tmps _ a2.defers (.panicking _) w2
    rw [hdef, ← hD]
    refine leaves_cons (f := 47) (args := #[.pointer (some ⟨(ι1 64).block, (ι1 64).off, none⟩), .pointer (some ⟨(ι1 128).block, (ι1 128).off, none⟩)]) (by simp) (by simp [go_sem]) ?_
    have k1 : ι2 3000320 = ι1 64 := (h2.loc _ _ g1 trivial (by decide)).trans i64
    have k2 : ι2 3000384 = ι1 128 := (h2.loc _ _ g3 trivial (by decide)).trans i128
    have p64 := h2.hr.obj _ _ g1
    have p128 := h2.hr.obj _ _ g3
    obtain ⟨x1, c1, z1, y1⟩ := p64 0 (by simp)
    obtain ⟨x2, c2, z2, y2⟩ := p128 0 (by simp)
    have e2 := avr_int (k := .i64) (n := 0) y2
    simp only [Nat.add_zero] at c1 z1 c2 z2
    rw [e2] at c2
    rw [k1] at c1 z1
    rw [k2] at c2 z2
    refine (full_catch _ _ x1 er 0 w2 c1 z1 c2 z2 (fun e => hne (by injection e))).mono ?_
    rintro e u' w'' ⟨rfl, rfl, rfl⟩
    rw [he]
    have r3 := wr_obj h2 (off := 0) g1 [.c .nilsl] [.slice none 0 0] rfl (by simp) (fun j hj => by
      have : j = 0 := by simpa using hj
      subst this; exact .c _ _ .nilsl)
    have g3' : LH.get (LH.set H2 3000320 (.obj (List.take 0 [AV.c CV.nilsl] ++ [.c .nilsl] ++ List.drop (0 + [AV.c CV.nilsl].length) [AV.c CV.nilsl]))) 3000384 = some (.obj [.c (.int .i64 0)]) := by
      rw [LH.get_set, if_neg (by decide)]; exact g3
    have r4 := wr_obj r3 (off := 0) g3' [.c (.int .i64 er)] [.int .i64 er] rfl (by simp) (fun j hj => by
      have : j = 0 := by simpa using hj
      subst this; exact .c _ _ (.int _ _))
    rw [k1, k2] at r4
    refine post (out := ⟨[.own 1 (runes []), .cv (.int .i64 er)], []⟩) r4 (ret24 (v := .c .nilsl) h4 h5 ?_ (.inl ⟨rfl, rfl⟩) ?_) rfl
    · rw [LH.get_set, if_neg (by decide), LH.get_set, if_pos rfl]; rfl
    · rw [LH.get_set, if_pos rfl]; rfl
end Go.Proofs.Ytcpdnpaedkcebaa.V
