/- Contracts by hand: table.Check, that keeps a map. -/
import Derived.Test.YtcpdnpaedkcebaaXh
import Derived.Test.YtcpdnpaedkcebaaXi
import Derived.Test.YtcpdnpaedkcebaaVy
namespace Go.Proofs.Ytcpdnpaedkcebaa.V
open Go Go.RowKit
set_option linter.unusedVariables false
set_option linter.unusedSimpArgs false
set_option maxRecDepth 100000
def blkC : Code → Code
  | .block _ c => c
  | _ => .skip
def loopC : Code → Code
  | .loop c => c
  | _ => .skip
def p0 : IC := (.reg [⟨(some 2), 0, none, .mv (.c (.int .i64 0))⟩,
  ⟨(some 3), 0, none, .mv (.c (.int .i64 0))⟩])
theorem chk_p0 : chkC Try.prog Try.f30.ntmps p0 (seqA (codeOf Try.f30)) = true := by decide +kernel
def p1 : IC := (.seq (.reg [⟨(some 13), 0, none, .mv (.t 0)⟩,
  ⟨(some 14), 0, none, .len false (.t 13)⟩,
  ⟨(some 15), 0, none, .bin .gtr (.t 14) (.c (.int .i64 4096))⟩]) (.cond (.t 15) (.seq (.reg [⟨(some 2), 0, none, .mv (.c (.int .i64 0))⟩,
  ⟨(some 3), 0, none, .mv (.c (.int .i64 3))⟩]) .ret) .skip))
theorem chk_p1 : chkC Try.prog Try.f30.ntmps p1 (seqA (seqB (codeOf Try.f30))) = true := by decide +kernel
def l30_0 : IC := (.seq (.reg [⟨(some 19), 0, none, .bin .lss (.t 18) (.t 17)⟩]) (.seq (.cond (.t 19) .skip (.exit 0)) (.seq (.block 1 (.seq (.reg [⟨(some 20), 0, none, .mv (.t 18)⟩,
  ⟨(some 21), 0, none, .ia (.t 16) (.t 18) 8⟩,
  ⟨(some 22), 0, none, .ld (.t 21) (some 8)⟩,
  ⟨(some 5), 1, none, .alloc [(.int .i64 0), (.int .i64 0), (.int .i64 0), (.int .i64 0), .nilsl, (.str ⟨#[]⟩), (.str ⟨#[]⟩), (.flt 0)]⟩,
  ⟨(some 4), 0, none, .mv (.t 20)⟩,
  ⟨none, 0, none, .st (.t 5) (.t 22) (some 8)⟩]) (.seq (.reg [⟨(some 23), 0, none, .ld (.t 5) (some 8)⟩,
  ⟨(some 24), 2, none, .call (.c (.fn 54)) [((.t 23), .plain)]⟩,
  ⟨(some 6), 0, none, .mv (.t 24)⟩]) (.seq (.reg [⟨(some 25), 0, none, .mv (.t 6)⟩,
  ⟨(some 26), 0, none, .bin .neq (.t 25) (.c (.int .i64 0))⟩]) (.cond (.t 26) (.seq (.reg [⟨(some 27), 0, none, .mv (.t 4)⟩,
  ⟨(some 28), 0, none, .mv (.t 6)⟩,
  ⟨(some 2), 0, none, .mv (.t 27)⟩,
  ⟨(some 3), 0, none, .mv (.t 28)⟩]) .ret) .skip))))) (.reg [⟨(some 29), 0, none, .bin .add (.t 18) (.c (.int .i64 1))⟩,
  ⟨(some 18), 0, none, .mv (.t 29)⟩]))))
def n30_0 : Norm := ⟨[(0, .plain), (16, .plain), (17, .plain), (18, .plain)], []⟩
def p2 : IC := (.seq (.reg [⟨(some 16), 0, none, .mv (.t 0)⟩,
  ⟨(some 17), 0, none, .len false (.t 16)⟩,
  ⟨(some 18), 0, none, .mv (.c (.int .i64 0))⟩]) (.block 0 (.loop n30_0 l30_0)))
theorem chk_p2 : chkC Try.prog Try.f30.ntmps p2 (seqA (seqB (seqB (codeOf Try.f30)))) = true := by decide +kernel
def p11 : IC := (.reg [⟨(some 31), 0, none, .mv (.t 0)⟩,
  ⟨(some 32), 0, none, .len false (.t 31)⟩,
  ⟨(some 33), 0, none, .mv (.c (.int .i64 0))⟩])
theorem chk_p11 : chkC Try.prog Try.f30.ntmps p11 (seqA (seqA (seqB (seqB (seqB (seqB (codeOf Try.f30))))))) = true := by decide +kernel
def p12 : IC := (.reg [⟨(some 34), 0, none, .bin .lss (.t 33) (.t 32)⟩])
theorem chk_p12 : chkC Try.prog Try.f30.ntmps p12 (seqA (loopC (blkC (seqB (seqA (seqB (seqB (seqB (seqB (codeOf Try.f30)))))))))) = true := by decide +kernel
def pc : IC := (.cond (.t 34) .skip (.exit 2))
theorem chk_pc : chkC Try.prog Try.f30.ntmps pc (seqA (seqB (loopC (blkC (seqB (seqA (seqB (seqB (seqB (seqB (codeOf Try.f30))))))))))) = true := by decide +kernel
def p13 : IC := (.reg [⟨(some 35), 0, none, .mv (.t 33)⟩,
  ⟨(some 36), 0, none, .ia (.t 31) (.t 33) 8⟩,
  ⟨(some 37), 0, none, .ld (.t 36) (some 8)⟩,
  ⟨(some 9), 12, none, .alloc [(.int .i64 0), (.int .i64 0), (.int .i64 0), (.int .i64 0), .nilsl, (.str ⟨#[]⟩), (.str ⟨#[]⟩), (.flt 0)]⟩,
  ⟨(some 8), 0, none, .mv (.t 35)⟩,
  ⟨none, 0, none, .st (.t 9) (.t 37) (some 8)⟩])
theorem chk_p13 : chkC Try.prog Try.f30.ntmps p13 (seqA (blkC (seqA (seqB (seqB (loopC (blkC (seqB (seqA (seqB (seqB (seqB (seqB (codeOf Try.f30)))))))))))))) = true := by decide +kernel
def p14 : IC := (.reg [⟨(some 38), 0, none, .fa (.t 9) 0⟩,
  ⟨(some 39), 0, none, .ld (.t 38) none⟩,
  ⟨(some 40), 13, none, .call (.c (.fn 28)) [((.t 39), .plain)]⟩,
  ⟨(some 10), 0, none, .mv (.t 40)⟩])
theorem chk_p14 : chkC Try.prog Try.f30.ntmps p14 (seqA (seqB (blkC (seqA (seqB (seqB (loopC (blkC (seqB (seqA (seqB (seqB (seqB (seqB (codeOf Try.f30))))))))))))))) = true := by decide +kernel
def l30_2 : IC := (.seq (.reg [⟨(some 46), 0, none, .bin .lss (.t 45) (.t 44)⟩]) (.seq (.cond (.t 46) .skip (.exit 4)) (.seq (.block 5 (.seq (.reg [⟨(some 47), 0, none, .ia (.t 43) (.t 45) 8⟩,
  ⟨(some 48), 0, none, .ld (.t 47) (some 8)⟩,
  ⟨(some 12), 23, none, .alloc [(.int .i64 0), (.int .i64 0), (.int .i64 0), (.int .i64 0), .nilsl, (.str ⟨#[]⟩), (.str ⟨#[]⟩), (.flt 0)]⟩,
  ⟨none, 0, none, .st (.t 12) (.t 48) (some 8)⟩]) (.seq (.reg [⟨(some 49), 0, none, .mv (.t 10)⟩,
  ⟨(some 50), 0, none, .bin .lss (.t 49) (.c (.int .i64 10))⟩,
  ⟨(some 51), 0, none, .mv (.t 50)⟩,
  ⟨(some 52), 0, (some (51, true)), .ld (.t 12) (some 8)⟩,
  ⟨(some 53), 0, (some (51, true)), .ld (.t 9) (some 8)⟩,
  ⟨(some 54), 24, (some (51, true)), .call (.c (.fn 55)) [((.t 52), .plain), ((.t 53), .plain)]⟩,
  ⟨(some 55), 0, none, .pick (.t 51) (.t 54) (.c (.bool false))⟩,
  ⟨(some 56), 0, none, .mv (.t 55)⟩,
  ⟨(some 57), 0, (some (56, false)), .mv (.t 10)⟩,
  ⟨(some 58), 0, (some (56, false)), .bin .eql (.t 57) (.c (.int .i64 10))⟩,
  ⟨(some 59), 0, (some (56, false)), .mv (.t 58)⟩,
  ⟨(some 60), 0, (some (59, true)), .fa (.t 12) 5⟩,
  ⟨(some 61), 0, (some (59, true)), .ld (.t 60) none⟩,
  ⟨(some 62), 0, (some (59, true)), .fa (.t 9) 5⟩,
  ⟨(some 63), 0, (some (59, true)), .ld (.t 62) none⟩,
  ⟨(some 64), 0, (some (59, true)), .bin .eql (.t 61) (.t 63)⟩,
  ⟨(some 65), 0, (some (59, true)), .mv (.t 64)⟩,
  ⟨(some 66), 0, (some (65, true)), .fa (.t 12) 6⟩,
  ⟨(some 67), 0, (some (65, true)), .ld (.t 66) none⟩,
  ⟨(some 68), 0, (some (65, true)), .fa (.t 9) 6⟩,
  ⟨(some 69), 0, (some (65, true)), .ld (.t 68) none⟩,
  ⟨(some 70), 0, (some (65, true)), .bin .eql (.t 67) (.t 69)⟩,
  ⟨(some 71), 0, (some (59, true)), .pick (.t 65) (.t 70) (.c (.bool false))⟩,
  ⟨(some 72), 0, (some (59, true)), .mv (.t 71)⟩,
  ⟨(some 73), 0, (some (72, false)), .fa (.t 12) 5⟩,
  ⟨(some 74), 0, (some (72, false)), .ld (.t 73) none⟩,
  ⟨(some 75), 0, (some (72, false)), .fa (.t 9) 6⟩,
  ⟨(some 76), 0, (some (72, false)), .ld (.t 75) none⟩,
  ⟨(some 77), 0, (some (72, false)), .bin .eql (.t 74) (.t 76)⟩,
  ⟨(some 78), 0, (some (72, false)), .mv (.t 77)⟩,
  ⟨(some 79), 0, (some (78, true)), .fa (.t 12) 6⟩,
  ⟨(some 80), 0, (some (78, true)), .ld (.t 79) none⟩,
  ⟨(some 81), 0, (some (78, true)), .fa (.t 9) 5⟩,
  ⟨(some 82), 0, (some (78, true)), .ld (.t 81) none⟩,
  ⟨(some 83), 0, (some (78, true)), .bin .eql (.t 80) (.t 82)⟩,
  ⟨(some 84), 0, (some (72, false)), .pick (.t 78) (.t 83) (.c (.bool false))⟩,
  ⟨(some 85), 0, (some (59, true)), .pick (.t 72) (.c (.bool true)) (.t 84)⟩,
  ⟨(some 86), 0, (some (56, false)), .pick (.t 59) (.t 85) (.c (.bool false))⟩,
  ⟨(some 87), 0, none, .pick (.t 56) (.c (.bool true)) (.t 86)⟩]) (.cond (.t 87) (.seq (.reg [⟨(some 88), 0, none, .mv (.t 8)⟩,
  ⟨(some 2), 0, none, .mv (.t 88)⟩,
  ⟨(some 3), 0, none, .mv (.c (.int .i64 62))⟩]) .ret) .skip)))) (.reg [⟨(some 89), 0, none, .bin .add (.t 45) (.c (.int .i64 1))⟩,
  ⟨(some 45), 0, none, .mv (.t 89)⟩]))))
def n30_2 : Norm := ⟨[(7, .plain), (8, .plain), (9, .plain), (10, .plain), (31, .plain), (32, .plain), (33, .plain), (43, .own 8 3000640), (44, .plain), (45, .plain)], [(768, [.plain, .plain, .plain, .plain, .plain, .plain, .plain, .plain])]⟩
def p4 : IC := (.block 4 (.loop n30_2 l30_2))
theorem chk_p4 : chkC Try.prog Try.f30.ntmps p4 (seqB (seqA (seqB (seqB (blkC (seqA (seqB (seqB (loopC (blkC (seqB (seqA (seqB (seqB (seqB (seqB (codeOf Try.f30))))))))))))))))) = true := by decide +kernel
def p22 : IC := (.reg [⟨(some 98), 0, none, .bin .add (.t 33) (.c (.int .i64 1))⟩,
  ⟨(some 33), 0, none, .mv (.t 98)⟩])
theorem chk_p22 : chkC Try.prog Try.f30.ntmps p22 (seqB (seqB (seqB (loopC (blkC (seqB (seqA (seqB (seqB (seqB (seqB (codeOf Try.f30)))))))))))) = true := by decide +kernel
def pe : IC := (.seq (.reg [⟨(some 2), 0, none, .mv (.c (.int .i64 0))⟩,
  ⟨(some 3), 0, none, .mv (.c (.int .i64 0))⟩]) .ret)
theorem chk_pe : chkC Try.prog Try.f30.ntmps pe (seqB (seqB (seqB (seqB (seqB (codeOf Try.f30)))))) = true := by decide +kernel
theorem split30 : codeOf Try.f30 = .seq (seqA (codeOf Try.f30)) (.seq (seqA (seqB (codeOf Try.f30))) (.seq (seqA (seqB (seqB (codeOf Try.f30))))
  (.seq (.region 10 (opsOf (seqA (seqB (seqB (seqB (codeOf Try.f30)))))) false)
  (.seq (.seq (seqA (seqA (seqB (seqB (seqB (seqB (codeOf Try.f30))))))) (.block 2 (.loop (loopC (blkC (seqB (seqA (seqB (seqB (seqB (seqB (codeOf Try.f30))))))))))))
    (seqB (seqB (seqB (seqB (seqB (codeOf Try.f30)))))))))) := by kernel_rfl
theorem split30b : (loopC (blkC (seqB (seqA (seqB (seqB (seqB (seqB (codeOf Try.f30))))))))) = .seq (seqA (loopC (blkC (seqB (seqA (seqB (seqB (seqB (seqB (codeOf Try.f30)))))))))) (.seq (seqA (seqB (loopC (blkC (seqB (seqA (seqB (seqB (seqB (seqB (codeOf Try.f30))))))))))) (.seq (.block 3 (.seq (seqA (blkC (seqA (seqB (seqB (loopC (blkC (seqB (seqA (seqB (seqB (seqB (seqB (codeOf Try.f30)))))))))))))) (.seq (seqA (seqB (blkC (seqA (seqB (seqB (loopC (blkC (seqB (seqA (seqB (seqB (seqB (seqB (codeOf Try.f30)))))))))))))))
  (.seq (.seq (.region 15 (opsOf (seqA (seqA (seqB (seqB (blkC (seqA (seqB (seqB (loopC (blkC (seqB (seqA (seqB (seqB (seqB (seqB (codeOf Try.f30)))))))))))))))))) false) (seqB (seqA (seqB (seqB (blkC (seqA (seqB (seqB (loopC (blkC (seqB (seqA (seqB (seqB (seqB (seqB (codeOf Try.f30))))))))))))))))))
    (.region 21 (opsOf (seqB (seqB (seqB (blkC (seqA (seqB (seqB (loopC (blkC (seqB (seqA (seqB (seqB (seqB (seqB (codeOf Try.f30))))))))))))))))) false))))) (seqB (seqB (seqB (loopC (blkC (seqB (seqA (seqB (seqB (seqB (seqB (codeOf Try.f30)))))))))))))) := by kernel_rfl

def robj (r : Rec) : LObj := .obj [.c (.int .i64 r.kind), .c (.int .i64 r.lo), .c (.int .i64 r.hi), .c (.int .i64 r.n), .c (.sl 1 (runes r.to)), .c (.str r.name), .c (.str r.other), .c (.flt r.weight)]
/-- Two records of family f are at odds. -/
def clashP (f : Int) (o r : Rec) : Bool :=
  decide (f < 10) && meetR o r || decide (f = 10) && (decide (o.name.data.toList = r.name.data.toList) && decide (o.other.data.toList = r.other.data.toList) || decide (o.name.data.toList = r.other.data.toList) && decide (o.other.data.toList = r.name.data.toList))
def fam (l : List Rec) (f : Int) : List Rec := l.filter fun o => decide (famK o.kind = f)
def rightsP : List Rec → Int → Option (Int × Int)
  | [], _ => none
  | r :: l, i => if rightR r ≠ 0 then some (i, rightR r) else rightsP l (i + 1)
def twiceP : List Rec → List Rec → Int → Option Int
  | _, [], _ => none
  | p, r :: s, i => if (fam p (famK r.kind)).any (fun o => clashP (famK r.kind) o r) = true then some i else twiceP (p ++ [r]) s (i + 1)
/-- What table.Check tells. -/
def checkP (l : List Rec) : Int × Int :=
  if 4096 < l.length then (0, 3) else
  match rightsP l 0 with
  | some x => x
  | none =>
    match twiceP [] l 0 with
    | some i => (i, 62)
    | none => (0, 0)
theorem rightsP_none : ∀ (l : List Rec) (i : Int), rightsP l i = none → ∀ r ∈ l, rightR r = 0
  | [], _, _, r, hr => by cases hr
  | a :: l, i, h, r, hr => by
    unfold rightsP at h
    by_cases e : rightR a = 0
    · rw [if_neg (by simpa using e)] at h
      rcases List.mem_cons.1 hr with rfl | hr
      · exact e
      · exact rightsP_none l _ h r hr
    · rw [if_pos e] at h; cases h
theorem rightR_n {r : Rec} (h : rightR r = 0) (h4 : r.kind = 4) : 1 ≤ r.n := by
  unfold rightR at h
  rw [h4] at h
  simp [famK] at h
  have h := h.2
  unfold fitsR at h
  simp [h4] at h
  unfold shiftsR at h
  grind
theorem clashP_t {f : Int} {o r : Rec} (h : f < 10 ∧ meetR o r = true ∨ f = 10 ∧ (o.name.data.toList = r.name.data.toList ∧ o.other.data.toList = r.other.data.toList ∨ o.name.data.toList = r.other.data.toList ∧ o.other.data.toList = r.name.data.toList)) : clashP f o r = true := by
  unfold clashP
  simpa using h
theorem clashP_f {f : Int} {o r : Rec} (h : (10 ≤ f ∨ meetR o r = false) ∧ (¬f = 10 ∨ (¬o.name.data.toList = r.name.data.toList ∨ ¬o.other.data.toList = r.other.data.toList) ∧ (¬o.name.data.toList = r.other.data.toList ∨ ¬o.other.data.toList = r.name.data.toList))) : clashP f o r = false := by
  unfold clashP
  grind
theorem wa30_0 (l : List Rec) (Q : Ex → Slots → LH → Prop) (hQ : ∀ σ, Has σ [(0, .c (.sl 8 (recs l)))] → Q .norm σ []) : rnC Try.prog p0 Q [(0, .c (.sl 8 (recs l)))] [] := by
  unfold p0
  simp only [go_sem, ↓reduceIte, Nat.reduceEqDiff, Nat.reduceMul, Nat.reduceAdd, Nat.reduceDiv, Nat.reduceSub, Nat.reduceLT, Nat.reduceLeDiff, Int.reduceLE, Int.reduceLT, Int.reduceToNat, Int.reduceEq]
  exact hQ _ ⟨rfl, trivial⟩
theorem wa30_1 (l : List Rec) (Q : Ex → Slots → LH → Prop) (h1 : 4096 < l.length → ∀ σ H, Has σ [(2, .c (.int .i64 0)), (3, .c (.int .i64 3))] → Q .ret σ H) (h2 : ¬ 4096 < l.length → ∀ σ, Has σ [(0, .c (.sl 8 (recs l)))] → Q .norm σ []) : rnC Try.prog p1 Q [(0, .c (.sl 8 (recs l)))] [] := by
  unfold p1
  simp only [go_sem, ↓reduceIte, Nat.reduceEqDiff, Nat.reduceMul, Nat.reduceAdd, Nat.reduceDiv, Nat.reduceSub, Nat.reduceLT, Nat.reduceLeDiff, Int.reduceLE, Int.reduceLT, Int.reduceToNat, Int.reduceEq]
  refine ⟨fun h => h1 (by omega) _ _ ⟨rfl, rfl, trivial⟩, fun h => h2 (by omega) _ ⟨rfl, trivial⟩⟩
theorem wa30_2 (l : List Rec) (hto : ∀ r ∈ l, r.to.length ≤ 35184372088832) (hn : l.length ≤ 4096) (Q : Ex → Slots → LH → Prop) (h1 : ∀ i e, rightsP l 0 = some (i, e) → ∀ σ H, Has σ [(2, .c (.int .i64 i)), (3, .c (.int .i64 e))] → Q .ret σ H)
    (h2 : rightsP l 0 = none → ∀ σ, Has σ [(0, .c (.sl 8 (recs l)))] → Q .norm σ []) : rnC Try.prog p2 Q [(0, .c (.sl 8 (recs l)))] [] := by
  unfold p2
  simp only [go_sem, ↓reduceIte, Nat.reduceEqDiff, Nat.reduceMul, Nat.reduceAdd, Nat.reduceDiv, Nat.reduceSub, Nat.reduceLT, Nat.reduceLeDiff, Int.reduceLE, Int.reduceLT, Int.reduceToNat, Int.reduceEq]
  refine loopR.by (α := Nat) (fun i => [(0, .c (.sl 8 (recs l))), (16, .c (.sl 8 (recs l))), (17, .c (.int .i64 l.length)), (18, .c (.int .i64 i))]) (fun _ => []) (fun i => l.length - i) (fun i => i ≤ l.length ∧ rightsP (l.drop i) i = rightsP l 0) 0 ⟨Nat.zero_le _, rfl⟩ ?_ ?_
  · intro Y hY
    simp only [go_sem, ↓reduceIte, Nat.reduceEqDiff, Nat.reduceMul, Nat.reduceAdd, Nat.reduceDiv, Nat.reduceSub, Nat.reduceLT, Nat.reduceLeDiff, Int.reduceLE, Int.reduceLT, Int.reduceToNat, Int.reduceEq, n30_0]
    exact hY
  intro i hk Y hY
  unfold l30_0
  rcases Nat.lt_or_ge i l.length with hlt | hge
  · obtain ⟨r, e, hm, hd⟩ := recs_at hlt
    have hf' := hk.2
    rw [hd, rightsP] at hf'
    simp only [go_sem, ↓reduceIte, Nat.reduceEqDiff, Nat.reduceMul, Nat.reduceAdd, Nat.reduceDiv, Nat.reduceSub, Nat.reduceLT, Nat.reduceLeDiff, Int.reduceLE, Int.reduceLT, Int.reduceToNat, Int.reduceEq, n30_0, e]
    refine ⟨fun _ => ⟨by omega, ?_⟩, fun h => by omega⟩
    refine callK_1 _ (fun _ => cw54 r (by have := hto r hm; omega)) (by simp only [go_sem, ↓reduceIte, Nat.reduceEqDiff, Nat.reduceMul, Nat.reduceAdd, Nat.reduceDiv, Nat.reduceSub, Nat.reduceLT, Nat.reduceLeDiff, Int.reduceLE, Int.reduceLT, Int.reduceToNat, Int.reduceEq]) rfl rfl ?_
    simp only [go_sem, ↓reduceIte, Nat.reduceEqDiff, Nat.reduceMul, Nat.reduceAdd, Nat.reduceDiv, Nat.reduceSub, Nat.reduceLT, Nat.reduceLeDiff, Int.reduceLE, Int.reduceLT, Int.reduceToNat, Int.reduceEq]
    repeat (refine ⟨by (first | omega | (intro h1 h2; exact ⟨h1, h2⟩) | (intro h1; omega) | (intro h1; exact h1) | trivial), ?_⟩)
    rw [succ64 hlt (by omega)]
    refine ⟨fun h => ?_, fun h => hY (i + 1) ⟨hlt, ?_⟩ (by omega)⟩
    · rw [if_pos h] at hf'
      exact h1 _ _ hf'.symm _ _ ⟨rfl, rfl, trivial⟩
    · rw [if_neg (by simpa using h)] at hf'
      rw [← hf']; simp
  · have hlen : i = l.length := by omega
    have hr := hk.2
    rw [hlen, List.drop_length] at hr
    simp only [go_sem, ↓reduceIte, Nat.reduceEqDiff, Nat.reduceMul, Nat.reduceAdd, Nat.reduceDiv, Nat.reduceSub, Nat.reduceLT, Nat.reduceLeDiff, Int.reduceLE, Int.reduceLT, Int.reduceToNat, Int.reduceEq, n30_0]
    exact ⟨fun h => by omega, fun _ => h2 hr.symm _ ⟨rfl, trivial⟩⟩
theorem wa30_11 (l : List Rec) (m : Value) (Q : Ex → Slots → LH → Prop) (hQ : ∀ σ, Has σ [(7, .c (.raw m)), (31, .c (.sl 8 (recs l))), (32, .c (.int .i64 l.length)), (33, .c (.int .i64 0))] → Q .norm σ []) : rnC Try.prog p11 Q [(0, .c (.sl 8 (recs l))), (7, .c (.raw m))] [] := by
  unfold p11
  simp only [go_sem, ↓reduceIte, Nat.reduceEqDiff, Nat.reduceMul, Nat.reduceAdd, Nat.reduceDiv, Nat.reduceSub, Nat.reduceLT, Nat.reduceLeDiff, Int.reduceLE, Int.reduceLT, Int.reduceToNat, Int.reduceEq]
  exact hQ _ ⟨rfl, rfl, rfl, rfl, trivial⟩
def s30 (l : List Rec) (m : Value) (i : Nat) : Slots := [(7, .c (.raw m)), (31, .c (.sl 8 (recs l))), (32, .c (.int .i64 l.length)), (33, .c (.int .i64 i))]
theorem wa30_12 (l : List Rec) (m : Value) (i : Nat) (Q : Ex → Slots → LH → Prop) (hQ : ∀ σ, Has σ ((34, .c (.bool (decide ((i : Int) < l.length)))) :: s30 l m i) → Q .norm σ []) : rnC Try.prog p12 Q (s30 l m i) [] := by
  unfold p12 s30
  simp only [go_sem, ↓reduceIte, Nat.reduceEqDiff, Nat.reduceMul, Nat.reduceAdd, Nat.reduceDiv, Nat.reduceSub, Nat.reduceLT, Nat.reduceLeDiff, Int.reduceLE, Int.reduceLT, Int.reduceToNat, Int.reduceEq]
  exact hQ _ ⟨rfl, rfl, rfl, rfl, rfl, trivial⟩
theorem wa30_c (l : List Rec) (m : Value) (i : Nat) (Q : Ex → Slots → LH → Prop) (h1 : i < l.length → ∀ σ, Has σ (s30 l m i) → Q .norm σ []) (h2 : l.length ≤ i → ∀ σ, Has σ (s30 l m i) → Q (.exit 2) σ []) : rnC Try.prog pc Q ((34, .c (.bool (decide ((i : Int) < l.length)))) :: s30 l m i) [] := by
  unfold pc s30
  simp only [go_sem, ↓reduceIte, Nat.reduceEqDiff, Nat.reduceMul, Nat.reduceAdd, Nat.reduceDiv, Nat.reduceSub, Nat.reduceLT, Nat.reduceLeDiff, Int.reduceLE, Int.reduceLT, Int.reduceToNat, Int.reduceEq]
  exact ⟨fun h => h1 (by omega) _ ⟨rfl, rfl, rfl, rfl, trivial⟩, fun h => h2 (by omega) _ ⟨rfl, rfl, rfl, rfl, trivial⟩⟩
theorem wa30_13 (l : List Rec) (m : Value) (i : Nat) (r : Rec) (hi : i < l.length) (e : (recs l).getD i .undef = r.cv) (Q : Ex → Slots → LH → Prop) (h1 : ∀ σ, Has σ ((8, .c (.int .i64 i)) :: (9, .ref 768 0) :: s30 l m i) → Q .norm σ [(768, robj r)]) : rnC Try.prog p13 Q (s30 l m i) [] := by
  unfold p13 s30
  simp only [go_sem, ↓reduceIte, Nat.reduceEqDiff, Nat.reduceMul, Nat.reduceAdd, Nat.reduceDiv, Nat.reduceSub, Nat.reduceLT, Nat.reduceLeDiff, Int.reduceLE, Int.reduceLT, Int.reduceToNat, Int.reduceEq, e]
  exact ⟨by omega, h1 _ ⟨rfl, rfl, rfl, rfl, rfl, rfl, trivial⟩⟩
theorem wa30_14 (l : List Rec) (m : Value) (i : Nat) (r : Rec) (Q : Ex → Slots → LH → Prop) (h1 : ∀ σ, Has σ ((10, .c (.int .i64 (famK r.kind))) :: (8, .c (.int .i64 i)) :: (9, .ref 768 0) :: s30 l m i) → Q .norm σ [(768, robj r)]) : rnC Try.prog p14 Q ((8, .c (.int .i64 i)) :: (9, .ref 768 0) :: s30 l m i) [(768, robj r)] := by
  unfold p14 s30 robj
  simp only [go_sem, ↓reduceIte, Nat.reduceEqDiff, Nat.reduceMul, Nat.reduceAdd, Nat.reduceDiv, Nat.reduceSub, Nat.reduceLT, Nat.reduceLeDiff, Int.reduceLE, Int.reduceLT, Int.reduceToNat, Int.reduceEq]
  refine callK_1 _ (fun _ => cw28 _) (by simp only [go_sem, ↓reduceIte, Nat.reduceEqDiff, Nat.reduceMul, Nat.reduceAdd, Nat.reduceDiv, Nat.reduceSub, Nat.reduceLT, Nat.reduceLeDiff, Int.reduceLE, Int.reduceLT, Int.reduceToNat, Int.reduceEq]) rfl rfl ?_
  simp only [go_sem, ↓reduceIte, Nat.reduceEqDiff, Nat.reduceMul, Nat.reduceAdd, Nat.reduceDiv, Nat.reduceSub, Nat.reduceLT, Nat.reduceLeDiff, Int.reduceLE, Int.reduceLT, Int.reduceToNat, Int.reduceEq]
  repeat (refine ⟨by (first | omega | (intro h1 h2; exact ⟨h1, h2⟩) | (intro h1; omega) | (intro h1; exact h1) | trivial), ?_⟩)
  exact h1 _ ⟨rfl, rfl, rfl, rfl, rfl, rfl, rfl, trivial⟩
def s30b (l : List Rec) (m : Value) (i : Nat) (f : Int) (os : List Rec) : Slots := (43, .osl 3000640 0 os.length) :: (10, .c (.int .i64 f)) :: (8, .c (.int .i64 i)) :: (9, .ref 768 0) :: s30 l m i
def h30b (r : Rec) (os : List Rec) : LH := [(768, robj r), (3000640, .row 8 (recs os))]
theorem wa30_4 (l : List Rec) (m : Value) (i : Nat) (r : Rec) (os : List Rec) (hol : os.length ≤ 4096) (hr : r.ok) (hrr : rightR r = 0) (ho : ∀ o ∈ os, o.ok ∧ rightR o = 0) (Q : Ex → Slots → LH → Prop)
    (h1 : os.any (fun o => clashP (famK r.kind) o r) = true → ∀ σ H, Has σ [(2, .c (.int .i64 i)), (3, .c (.int .i64 62))] → Q .ret σ H) (h2 : os.any (fun o => clashP (famK r.kind) o r) = false → ∀ σ, Has σ (s30b l m i (famK r.kind) os) → Q .norm σ [(3000640, .row 8 (recs os)), (768, robj r)]) :
    rnC Try.prog p4 Q ((45, .c (.int .i64 0)) :: (44, .c (.int .i64 os.length)) :: s30b l m i (famK r.kind) os) (h30b r os) := by
  unfold p4 s30b h30b s30 robj
  simp only [go_sem, ↓reduceIte, Nat.reduceEqDiff, Nat.reduceMul, Nat.reduceAdd, Nat.reduceDiv, Nat.reduceSub, Nat.reduceLT, Nat.reduceLeDiff, Int.reduceLE, Int.reduceLT, Int.reduceToNat, Int.reduceEq]
  refine loopR.by (α := Nat) (fun k => [(7, .c (.raw m)), (8, .c (.int .i64 i)), (9, .ref 768 0), (10, .c (.int .i64 (famK r.kind))), (31, .c (.sl 8 (recs l))), (32, .c (.int .i64 l.length)), (33, .c (.int .i64 i)), (43, .osl 3000640 0 os.length), (44, .c (.int .i64 os.length)), (45, .c (.int .i64 k))])
    (fun _ => [(3000640, .row 8 (recs os)), (768, .obj [.c (.int .i64 r.kind), .c (.int .i64 r.lo), .c (.int .i64 r.hi), .c (.int .i64 r.n), .c (.sl 1 (runes r.to)), .c (.str r.name), .c (.str r.other), .c (.flt r.weight)])]) (fun k => os.length - k)
    (fun k => k ≤ os.length ∧ (os.drop k).any (fun o => clashP (famK r.kind) o r) = os.any fun o => clashP (famK r.kind) o r) 0 ⟨Nat.zero_le _, rfl⟩ ?_ ?_
  · intro Y hY
    simp only [go_sem, ↓reduceIte, Nat.reduceEqDiff, Nat.reduceMul, Nat.reduceAdd, Nat.reduceDiv, Nat.reduceSub, Nat.reduceLT, Nat.reduceLeDiff, Int.reduceLE, Int.reduceLT, Int.reduceToNat, Int.reduceEq, n30_2]
    exact ⟨by simp, hY⟩
  intro k hk Y hY
  unfold l30_2
  rcases Nat.lt_or_ge k os.length with hlt | hge
  · obtain ⟨o, e, hm, hd⟩ := recs_at hlt
    have hf' := hk.2
    rw [hd, List.any_cons] at hf'
    simp only [go_sem, ↓reduceIte, Nat.reduceEqDiff, Nat.reduceMul, Nat.reduceAdd, Nat.reduceDiv, Nat.reduceSub, Nat.reduceLT, Nat.reduceLeDiff, Int.reduceLE, Int.reduceLT, Int.reduceToNat, Int.reduceEq, n30_2, e]
    refine ⟨fun _ => ?_, fun h => by omega⟩
    repeat (refine ⟨by (first | omega | (intro h1 h2; exact ⟨h1, h2⟩) | (intro h1; omega) | (intro h1; exact h1) | trivial), ?_⟩)
    refine callK_1 _ (fun _ => cw55 o r (ho o hm).1 hr (rightR_n (ho o hm).2) (rightR_n hrr)) (by simp only [go_sem, ↓reduceIte, Nat.reduceEqDiff, Nat.reduceMul, Nat.reduceAdd, Nat.reduceDiv, Nat.reduceSub, Nat.reduceLT, Nat.reduceLeDiff, Int.reduceLE, Int.reduceLT, Int.reduceToNat, Int.reduceEq]) rfl rfl ?_
    simp only [go_sem, ↓reduceIte, Nat.reduceEqDiff, Nat.reduceMul, Nat.reduceAdd, Nat.reduceDiv, Nat.reduceSub, Nat.reduceLT, Nat.reduceLeDiff, Int.reduceLE, Int.reduceLT, Int.reduceToNat, Int.reduceEq, e]
    repeat (refine ⟨by (first | omega | (intro h1 h2; exact ⟨h1, h2⟩) | (intro h1; omega) | (intro h1; exact h1) | trivial), ?_⟩)
    rw [succ64 hlt (by omega)]
    refine ⟨fun hh => ?_, fun hh => ?_⟩
    · refine h1 ?_ _ _ ⟨rfl, rfl, trivial⟩
      rw [← hf']
      have : clashP (famK r.kind) o r = true := clashP_t hh
      rw [this, Bool.true_or]
    · refine ⟨by simp, hY (k + 1) ⟨hlt, ?_⟩ (by omega)⟩
      have : clashP (famK r.kind) o r = false := clashP_f hh
      rw [← hf', this, Bool.false_or]
  · have hlen : k = os.length := by omega
    have hr := hk.2
    rw [hlen, List.drop_length] at hr
    simp only [go_sem, ↓reduceIte, Nat.reduceEqDiff, Nat.reduceMul, Nat.reduceAdd, Nat.reduceDiv, Nat.reduceSub, Nat.reduceLT, Nat.reduceLeDiff, Int.reduceLE, Int.reduceLT, Int.reduceToNat, Int.reduceEq, n30_2]
    exact ⟨fun h => by omega, fun _ => h2 hr.symm _ ⟨rfl, rfl, rfl, rfl, rfl, rfl, rfl, rfl, trivial⟩⟩
theorem wa30_22 (l : List Rec) (m : Value) (i : Nat) (hi : i < l.length) (hn : l.length ≤ 4096) (Q : Ex → Slots → LH → Prop) (h1 : ∀ σ, Has σ (s30 l m (i + 1)) → Q .norm σ []) : rnC Try.prog p22 Q (s30 l m i) [] := by
  unfold p22 s30
  simp only [go_sem, ↓reduceIte, Nat.reduceEqDiff, Nat.reduceMul, Nat.reduceAdd, Nat.reduceDiv, Nat.reduceSub, Nat.reduceLT, Nat.reduceLeDiff, Int.reduceLE, Int.reduceLT, Int.reduceToNat, Int.reduceEq]
  rw [succ64 hi (by omega)]
  exact h1 _ ⟨rfl, rfl, rfl, rfl, trivial⟩
theorem wa30_e (Q : Ex → Slots → LH → Prop) (h1 : ∀ σ, Has σ [(2, .c (.int .i64 0)), (3, .c (.int .i64 0))] → Q .ret σ []) : rnC Try.prog pe Q [] [] := by
  unfold pe
  simp only [go_sem, ↓reduceIte, Nat.reduceEqDiff, Nat.reduceMul, Nat.reduceAdd, Nat.reduceDiv, Nat.reduceSub, Nat.reduceLT, Nat.reduceLeDiff, Int.reduceLE, Int.reduceLT, Int.reduceToNat, Int.reduceEq]
  exact h1 _ ⟨rfl, rfl, trivial⟩
end Go.Proofs.Ytcpdnpaedkcebaa.V
