/- Towards the law PackBits (bits that are turned over), part 5: the texts Xj Yj Pc Xk Xl Xm Pe Yq Yr Pf Pg Ys Yu Yk Yo Yp Xn Xp Yw Pi Pj Pk Pl, what of them is used. -/
import Derived.Test.YtcpdnpaedkcebaaZPackBits4
namespace Go.Proofs.Ytcpdnpaedkcebaa.V
open Go Go.RowKit
set_option linter.unusedVariables false
set_option linter.unusedSimpArgs false
set_option maxRecDepth 100000
def blkC : Code → Code
  | .block _ c => c
  | _ => .skip
def loopC : Code → Code
  | .loop c => c
  | _ => .skip
def p0 : IC := (.reg [⟨(some 2), 0, none, .mv (.c (.int .i64 0))⟩,
  ⟨(some 3), 0, none, .mv (.c (.int .i64 0))⟩])
theorem chk_p0 : chkC Try.prog Try.f30.ntmps p0 (seqA (codeOf Try.f30)) = true := by decide +kernel
def p1 : IC := (.seq (.reg [⟨(some 13), 0, none, .mv (.t 0)⟩,
  ⟨(some 14), 0, none, .len false (.t 13)⟩,
  ⟨(some 15), 0, none, .bin .gtr (.t 14) (.c (.int .i64 4096))⟩]) (.cond (.t 15) (.seq (.reg [⟨(some 2), 0, none, .mv (.c (.int .i64 0))⟩,
  ⟨(some 3), 0, none, .mv (.c (.int .i64 3))⟩]) .ret) .skip))
theorem chk_p1 : chkC Try.prog Try.f30.ntmps p1 (seqA (seqB (codeOf Try.f30))) = true := by decide +kernel
def l30_0 : IC := (.seq (.reg [⟨(some 19), 0, none, .bin .lss (.t 18) (.t 17)⟩]) (.seq (.cond (.t 19) .skip (.exit 0)) (.seq (.block 1 (.seq (.reg [⟨(some 20), 0, none, .mv (.t 18)⟩,
  ⟨(some 21), 0, none, .ia (.t 16) (.t 18) 8⟩,
  ⟨(some 22), 0, none, .ld (.t 21) (some 8)⟩,
  ⟨(some 5), 1, none, .alloc [(.int .i64 0), (.int .i64 0), (.int .i64 0), (.int .i64 0), .nilsl, (.str ⟨#[]⟩), (.str ⟨#[]⟩), (.flt 0)]⟩,
  ⟨(some 4), 0, none, .mv (.t 20)⟩,
  ⟨none, 0, none, .st (.t 5) (.t 22) (some 8)⟩]) (.seq (.reg [⟨(some 23), 0, none, .ld (.t 5) (some 8)⟩,
  ⟨(some 24), 2, none, .call (.c (.fn 54)) [((.t 23), .plain)]⟩,
  ⟨(some 6), 0, none, .mv (.t 24)⟩]) (.seq (.reg [⟨(some 25), 0, none, .mv (.t 6)⟩,
  ⟨(some 26), 0, none, .bin .neq (.t 25) (.c (.int .i64 0))⟩]) (.cond (.t 26) (.seq (.reg [⟨(some 27), 0, none, .mv (.t 4)⟩,
  ⟨(some 28), 0, none, .mv (.t 6)⟩,
  ⟨(some 2), 0, none, .mv (.t 27)⟩,
  ⟨(some 3), 0, none, .mv (.t 28)⟩]) .ret) .skip))))) (.reg [⟨(some 29), 0, none, .bin .add (.t 18) (.c (.int .i64 1))⟩,
  ⟨(some 18), 0, none, .mv (.t 29)⟩]))))
def n30_0 : Norm := ⟨[(0, .plain), (16, .plain), (17, .plain), (18, .plain)], []⟩
def p2 : IC := (.seq (.reg [⟨(some 16), 0, none, .mv (.t 0)⟩,
  ⟨(some 17), 0, none, .len false (.t 16)⟩,
  ⟨(some 18), 0, none, .mv (.c (.int .i64 0))⟩]) (.block 0 (.loop n30_0 l30_0)))
theorem chk_p2 : chkC Try.prog Try.f30.ntmps p2 (seqA (seqB (seqB (codeOf Try.f30)))) = true := by decide +kernel
def p11 : IC := (.reg [⟨(some 31), 0, none, .mv (.t 0)⟩,
  ⟨(some 32), 0, none, .len false (.t 31)⟩,
  ⟨(some 33), 0, none, .mv (.c (.int .i64 0))⟩])
theorem chk_p11 : chkC Try.prog Try.f30.ntmps p11 (seqA (seqA (seqB (seqB (seqB (seqB (codeOf Try.f30))))))) = true := by decide +kernel
def p12 : IC := (.reg [⟨(some 34), 0, none, .bin .lss (.t 33) (.t 32)⟩])
theorem chk_p12 : chkC Try.prog Try.f30.ntmps p12 (seqA (loopC (blkC (seqB (seqA (seqB (seqB (seqB (seqB (codeOf Try.f30)))))))))) = true := by decide +kernel
def pc : IC := (.cond (.t 34) .skip (.exit 2))
theorem chk_pc : chkC Try.prog Try.f30.ntmps pc (seqA (seqB (loopC (blkC (seqB (seqA (seqB (seqB (seqB (seqB (codeOf Try.f30))))))))))) = true := by decide +kernel
def p13 : IC := (.reg [⟨(some 35), 0, none, .mv (.t 33)⟩,
  ⟨(some 36), 0, none, .ia (.t 31) (.t 33) 8⟩,
  ⟨(some 37), 0, none, .ld (.t 36) (some 8)⟩,
  ⟨(some 9), 12, none, .alloc [(.int .i64 0), (.int .i64 0), (.int .i64 0), (.int .i64 0), .nilsl, (.str ⟨#[]⟩), (.str ⟨#[]⟩), (.flt 0)]⟩,
  ⟨(some 8), 0, none, .mv (.t 35)⟩,
  ⟨none, 0, none, .st (.t 9) (.t 37) (some 8)⟩])
theorem chk_p13 : chkC Try.prog Try.f30.ntmps p13 (seqA (blkC (seqA (seqB (seqB (loopC (blkC (seqB (seqA (seqB (seqB (seqB (seqB (codeOf Try.f30)))))))))))))) = true := by decide +kernel
def p14 : IC := (.reg [⟨(some 38), 0, none, .fa (.t 9) 0⟩,
  ⟨(some 39), 0, none, .ld (.t 38) none⟩,
  ⟨(some 40), 13, none, .call (.c (.fn 28)) [((.t 39), .plain)]⟩,
  ⟨(some 10), 0, none, .mv (.t 40)⟩])
theorem chk_p14 : chkC Try.prog Try.f30.ntmps p14 (seqA (seqB (blkC (seqA (seqB (seqB (loopC (blkC (seqB (seqA (seqB (seqB (seqB (seqB (codeOf Try.f30))))))))))))))) = true := by decide +kernel
def l30_2 : IC := (.seq (.reg [⟨(some 46), 0, none, .bin .lss (.t 45) (.t 44)⟩]) (.seq (.cond (.t 46) .skip (.exit 4)) (.seq (.block 5 (.seq (.reg [⟨(some 47), 0, none, .ia (.t 43) (.t 45) 8⟩,
  ⟨(some 48), 0, none, .ld (.t 47) (some 8)⟩,
  ⟨(some 12), 23, none, .alloc [(.int .i64 0), (.int .i64 0), (.int .i64 0), (.int .i64 0), .nilsl, (.str ⟨#[]⟩), (.str ⟨#[]⟩), (.flt 0)]⟩,
  ⟨none, 0, none, .st (.t 12) (.t 48) (some 8)⟩]) (.seq (.reg [⟨(some 49), 0, none, .mv (.t 10)⟩,
  ⟨(some 50), 0, none, .bin .lss (.t 49) (.c (.int .i64 10))⟩,
  ⟨(some 51), 0, none, .mv (.t 50)⟩,
  ⟨(some 52), 0, (some (51, true)), .ld (.t 12) (some 8)⟩,
  ⟨(some 53), 0, (some (51, true)), .ld (.t 9) (some 8)⟩,
  ⟨(some 54), 24, (some (51, true)), .call (.c (.fn 55)) [((.t 52), .plain), ((.t 53), .plain)]⟩,
  ⟨(some 55), 0, none, .pick (.t 51) (.t 54) (.c (.bool false))⟩,
  ⟨(some 56), 0, none, .mv (.t 55)⟩,
  ⟨(some 57), 0, (some (56, false)), .mv (.t 10)⟩,
  ⟨(some 58), 0, (some (56, false)), .bin .eql (.t 57) (.c (.int .i64 10))⟩,
  ⟨(some 59), 0, (some (56, false)), .mv (.t 58)⟩,
  ⟨(some 60), 0, (some (59, true)), .fa (.t 12) 5⟩,
  ⟨(some 61), 0, (some (59, true)), .ld (.t 60) none⟩,
  ⟨(some 62), 0, (some (59, true)), .fa (.t 9) 5⟩,
  ⟨(some 63), 0, (some (59, true)), .ld (.t 62) none⟩,
  ⟨(some 64), 0, (some (59, true)), .bin .eql (.t 61) (.t 63)⟩,
  ⟨(some 65), 0, (some (59, true)), .mv (.t 64)⟩,
  ⟨(some 66), 0, (some (65, true)), .fa (.t 12) 6⟩,
  ⟨(some 67), 0, (some (65, true)), .ld (.t 66) none⟩,
  ⟨(some 68), 0, (some (65, true)), .fa (.t 9) 6⟩,
  ⟨(some 69), 0, (some (65, true)), .ld (.t 68) none⟩,
  ⟨(some 70), 0, (some (65, true)), .bin .eql (.t 67) (.t 69)⟩,
  ⟨(some 71), 0, (some (59, true)), .pick (.t 65) (.t 70) (.c (.bool false))⟩,
  ⟨(some 72), 0, (some (59, true)), .mv (.t 71)⟩,
  ⟨(some 73), 0, (some (72, false)), .fa (.t 12) 5⟩,
  ⟨(some 74), 0, (some (72, false)), .ld (.t 73) none⟩,
  ⟨(some 75), 0, (some (72, false)), .fa (.t 9) 6⟩,
  ⟨(some 76), 0, (some (72, false)), .ld (.t 75) none⟩,
  ⟨(some 77), 0, (some (72, false)), .bin .eql (.t 74) (.t 76)⟩,
  ⟨(some 78), 0, (some (72, false)), .mv (.t 77)⟩,
  ⟨(some 79), 0, (some (78, true)), .fa (.t 12) 6⟩,
  ⟨(some 80), 0, (some (78, true)), .ld (.t 79) none⟩,
  ⟨(some 81), 0, (some (78, true)), .fa (.t 9) 5⟩,
  ⟨(some 82), 0, (some (78, true)), .ld (.t 81) none⟩,
  ⟨(some 83), 0, (some (78, true)), .bin .eql (.t 80) (.t 82)⟩,
  ⟨(some 84), 0, (some (72, false)), .pick (.t 78) (.t 83) (.c (.bool false))⟩,
  ⟨(some 85), 0, (some (59, true)), .pick (.t 72) (.c (.bool true)) (.t 84)⟩,
  ⟨(some 86), 0, (some (56, false)), .pick (.t 59) (.t 85) (.c (.bool false))⟩,
  ⟨(some 87), 0, none, .pick (.t 56) (.c (.bool true)) (.t 86)⟩]) (.cond (.t 87) (.seq (.reg [⟨(some 88), 0, none, .mv (.t 8)⟩,
  ⟨(some 2), 0, none, .mv (.t 88)⟩,
  ⟨(some 3), 0, none, .mv (.c (.int .i64 62))⟩]) .ret) .skip)))) (.reg [⟨(some 89), 0, none, .bin .add (.t 45) (.c (.int .i64 1))⟩,
  ⟨(some 45), 0, none, .mv (.t 89)⟩]))))
def n30_2 : Norm := ⟨[(7, .plain), (8, .plain), (9, .plain), (10, .plain), (31, .plain), (32, .plain), (33, .plain), (43, .own 8 3000640), (44, .plain), (45, .plain)], [(768, [.plain, .plain, .plain, .plain, .plain, .plain, .plain, .plain])]⟩
def p4 : IC := (.block 4 (.loop n30_2 l30_2))
theorem chk_p4 : chkC Try.prog Try.f30.ntmps p4 (seqB (seqA (seqB (seqB (blkC (seqA (seqB (seqB (loopC (blkC (seqB (seqA (seqB (seqB (seqB (seqB (codeOf Try.f30))))))))))))))))) = true := by decide +kernel
def p22 : IC := (.reg [⟨(some 98), 0, none, .bin .add (.t 33) (.c (.int .i64 1))⟩,
  ⟨(some 33), 0, none, .mv (.t 98)⟩])
theorem chk_p22 : chkC Try.prog Try.f30.ntmps p22 (seqB (seqB (seqB (loopC (blkC (seqB (seqA (seqB (seqB (seqB (seqB (codeOf Try.f30)))))))))))) = true := by decide +kernel
def pe : IC := (.seq (.reg [⟨(some 2), 0, none, .mv (.c (.int .i64 0))⟩,
  ⟨(some 3), 0, none, .mv (.c (.int .i64 0))⟩]) .ret)
theorem chk_pe : chkC Try.prog Try.f30.ntmps pe (seqB (seqB (seqB (seqB (seqB (codeOf Try.f30)))))) = true := by decide +kernel
theorem split30 : codeOf Try.f30 = .seq (seqA (codeOf Try.f30)) (.seq (seqA (seqB (codeOf Try.f30))) (.seq (seqA (seqB (seqB (codeOf Try.f30))))
  (.seq (.region 10 (opsOf (seqA (seqB (seqB (seqB (codeOf Try.f30)))))) false)
  (.seq (.seq (seqA (seqA (seqB (seqB (seqB (seqB (codeOf Try.f30))))))) (.block 2 (.loop (loopC (blkC (seqB (seqA (seqB (seqB (seqB (seqB (codeOf Try.f30))))))))))))
    (seqB (seqB (seqB (seqB (seqB (codeOf Try.f30)))))))))) := by kernel_rfl
theorem split30b : (loopC (blkC (seqB (seqA (seqB (seqB (seqB (seqB (codeOf Try.f30))))))))) = .seq (seqA (loopC (blkC (seqB (seqA (seqB (seqB (seqB (seqB (codeOf Try.f30)))))))))) (.seq (seqA (seqB (loopC (blkC (seqB (seqA (seqB (seqB (seqB (seqB (codeOf Try.f30))))))))))) (.seq (.block 3 (.seq (seqA (blkC (seqA (seqB (seqB (loopC (blkC (seqB (seqA (seqB (seqB (seqB (seqB (codeOf Try.f30)))))))))))))) (.seq (seqA (seqB (blkC (seqA (seqB (seqB (loopC (blkC (seqB (seqA (seqB (seqB (seqB (seqB (codeOf Try.f30)))))))))))))))
  (.seq (.seq (.region 15 (opsOf (seqA (seqA (seqB (seqB (blkC (seqA (seqB (seqB (loopC (blkC (seqB (seqA (seqB (seqB (seqB (seqB (codeOf Try.f30)))))))))))))))))) false) (seqB (seqA (seqB (seqB (blkC (seqA (seqB (seqB (loopC (blkC (seqB (seqA (seqB (seqB (seqB (seqB (codeOf Try.f30))))))))))))))))))
    (.region 21 (opsOf (seqB (seqB (seqB (blkC (seqA (seqB (seqB (loopC (blkC (seqB (seqA (seqB (seqB (seqB (seqB (codeOf Try.f30))))))))))))))))) false))))) (seqB (seqB (seqB (loopC (blkC (seqB (seqA (seqB (seqB (seqB (seqB (codeOf Try.f30)))))))))))))) := by kernel_rfl
def robj (r : Rec) : LObj := .obj [.c (.int .i64 r.kind), .c (.int .i64 r.lo), .c (.int .i64 r.hi), .c (.int .i64 r.n), .c (.sl 1 (runes r.to)), .c (.str r.name), .c (.str r.other), .c (.flt r.weight)]
def clashP (f : Int) (o r : Rec) : Bool :=
  decide (f < 10) && meetR o r || decide (f = 10) && (decide (o.name.data.toList = r.name.data.toList) && decide (o.other.data.toList = r.other.data.toList) || decide (o.name.data.toList = r.other.data.toList) && decide (o.other.data.toList = r.name.data.toList))
def fam (l : List Rec) (f : Int) : List Rec := l.filter fun o => decide (famK o.kind = f)
def rightsP : List Rec → Int → Option (Int × Int)
  | [], _ => none
  | r :: l, i => if rightR r ≠ 0 then some (i, rightR r) else rightsP l (i + 1)
def twiceP : List Rec → List Rec → Int → Option Int
  | _, [], _ => none
  | p, r :: s, i => if (fam p (famK r.kind)).any (fun o => clashP (famK r.kind) o r) = true then some i else twiceP (p ++ [r]) s (i + 1)
def checkP (l : List Rec) : Int × Int :=
  if 4096 < l.length then (0, 3) else
  match rightsP l 0 with
  | some x => x
  | none =>
    match twiceP [] l 0 with
    | some i => (i, 62)
    | none => (0, 0)
theorem rightsP_none : ∀ (l : List Rec) (i : Int), rightsP l i = none → ∀ r ∈ l, rightR r = 0
  | [], _, _, r, hr => by cases hr
  | a :: l, i, h, r, hr => by
    unfold rightsP at h
    by_cases e : rightR a = 0
    · rw [if_neg (by simpa using e)] at h
      rcases List.mem_cons.1 hr with rfl | hr
      · exact e
      · exact rightsP_none l _ h r hr
    · rw [if_pos e] at h; cases h
theorem rightR_n {r : Rec} (h : rightR r = 0) (h4 : r.kind = 4) : 1 ≤ r.n := by
  unfold rightR at h
  rw [h4] at h
  simp [famK] at h
  have h := h.2
  unfold fitsR at h
  simp [h4] at h
  unfold shiftsR at h
  grind
theorem clashP_t {f : Int} {o r : Rec} (h : f < 10 ∧ meetR o r = true ∨ f = 10 ∧ (o.name.data.toList = r.name.data.toList ∧ o.other.data.toList = r.other.data.toList ∨ o.name.data.toList = r.other.data.toList ∧ o.other.data.toList = r.name.data.toList)) : clashP f o r = true := by
  unfold clashP
  simpa using h
theorem clashP_f {f : Int} {o r : Rec} (h : (10 ≤ f ∨ meetR o r = false) ∧ (¬f = 10 ∨ (¬o.name.data.toList = r.name.data.toList ∨ ¬o.other.data.toList = r.other.data.toList) ∧ (¬o.name.data.toList = r.other.data.toList ∨ ¬o.other.data.toList = r.name.data.toList))) : clashP f o r = false := by
  unfold clashP
  grind
theorem wa30_0 (l : List Rec) (Q : Ex → Slots → LH → Prop) (hQ : ∀ σ, Has σ [(0, .c (.sl 8 (recs l)))] → Q .norm σ []) : rnC Try.prog p0 Q [(0, .c (.sl 8 (recs l)))] [] := by
  unfold p0
  simp only [go_sem, ↓reduceIte, Nat.reduceEqDiff, Nat.reduceMul, Nat.reduceAdd, Nat.reduceDiv, Nat.reduceSub, Nat.reduceLT, Nat.reduceLeDiff, Int.reduceLE, Int.reduceLT, Int.reduceToNat, Int.reduceEq]
  exact hQ _ ⟨rfl, trivial⟩
theorem wa30_1 (l : List Rec) (Q : Ex → Slots → LH → Prop) (h1 : 4096 < l.length → ∀ σ H, Has σ [(2, .c (.int .i64 0)), (3, .c (.int .i64 3))] → Q .ret σ H) (h2 : ¬ 4096 < l.length → ∀ σ, Has σ [(0, .c (.sl 8 (recs l)))] → Q .norm σ []) : rnC Try.prog p1 Q [(0, .c (.sl 8 (recs l)))] [] := by
  unfold p1
  simp only [go_sem, ↓reduceIte, Nat.reduceEqDiff, Nat.reduceMul, Nat.reduceAdd, Nat.reduceDiv, Nat.reduceSub, Nat.reduceLT, Nat.reduceLeDiff, Int.reduceLE, Int.reduceLT, Int.reduceToNat, Int.reduceEq]
  refine ⟨fun h => h1 (by omega) _ _ ⟨rfl, rfl, trivial⟩, fun h => h2 (by omega) _ ⟨rfl, trivial⟩⟩
theorem wa30_2 (l : List Rec) (hto : ∀ r ∈ l, r.to.length ≤ 35184372088832) (hn : l.length ≤ 4096) (Q : Ex → Slots → LH → Prop) (h1 : ∀ i e, rightsP l 0 = some (i, e) → ∀ σ H, Has σ [(2, .c (.int .i64 i)), (3, .c (.int .i64 e))] → Q .ret σ H)
    (h2 : rightsP l 0 = none → ∀ σ, Has σ [(0, .c (.sl 8 (recs l)))] → Q .norm σ []) : rnC Try.prog p2 Q [(0, .c (.sl 8 (recs l)))] [] := by
  unfold p2
  simp only [go_sem, ↓reduceIte, Nat.reduceEqDiff, Nat.reduceMul, Nat.reduceAdd, Nat.reduceDiv, Nat.reduceSub, Nat.reduceLT, Nat.reduceLeDiff, Int.reduceLE, Int.reduceLT, Int.reduceToNat, Int.reduceEq]
  refine loopR.by (α := Nat) (fun i => [(0, .c (.sl 8 (recs l))), (16, .c (.sl 8 (recs l))), (17, .c (.int .i64 l.length)), (18, .c (.int .i64 i))]) (fun _ => []) (fun i => l.length - i) (fun i => i ≤ l.length ∧ rightsP (l.drop i) i = rightsP l 0) 0 ⟨Nat.zero_le _, rfl⟩ ?_ ?_
  · intro Y hY
    simp only [go_sem, ↓reduceIte, Nat.reduceEqDiff, Nat.reduceMul, Nat.reduceAdd, Nat.reduceDiv, Nat.reduceSub, Nat.reduceLT, Nat.reduceLeDiff, Int.reduceLE, Int.reduceLT, Int.reduceToNat, Int.reduceEq, n30_0]
    exact hY
  intro i hk Y hY
  unfold l30_0
  rcases Nat.lt_or_ge i l.length with hlt | hge
  · obtain ⟨r, e, hm, hd⟩ := recs_at hlt
    have hf' := hk.2
    rw [hd, rightsP] at hf'
    simp only [go_sem, ↓reduceIte, Nat.reduceEqDiff, Nat.reduceMul, Nat.reduceAdd, Nat.reduceDiv, Nat.reduceSub, Nat.reduceLT, Nat.reduceLeDiff, Int.reduceLE, Int.reduceLT, Int.reduceToNat, Int.reduceEq, n30_0, e]
    refine ⟨fun _ => ⟨by omega, ?_⟩, fun h => by omega⟩
    refine callK_1 _ (fun _ => cw54 r (by have := hto r hm; omega)) (by simp only [go_sem, ↓reduceIte, Nat.reduceEqDiff, Nat.reduceMul, Nat.reduceAdd, Nat.reduceDiv, Nat.reduceSub, Nat.reduceLT, Nat.reduceLeDiff, Int.reduceLE, Int.reduceLT, Int.reduceToNat, Int.reduceEq]) rfl rfl ?_
    simp only [go_sem, ↓reduceIte, Nat.reduceEqDiff, Nat.reduceMul, Nat.reduceAdd, Nat.reduceDiv, Nat.reduceSub, Nat.reduceLT, Nat.reduceLeDiff, Int.reduceLE, Int.reduceLT, Int.reduceToNat, Int.reduceEq]
    repeat (refine ⟨by (first | omega | (intro h1 h2; exact ⟨h1, h2⟩) | (intro h1; omega) | (intro h1; exact h1) | trivial), ?_⟩)
    rw [succ64 hlt (by omega)]
    refine ⟨fun h => ?_, fun h => hY (i + 1) ⟨hlt, ?_⟩ (by omega)⟩
    · rw [if_pos h] at hf'
      exact h1 _ _ hf'.symm _ _ ⟨rfl, rfl, trivial⟩
    · rw [if_neg (by simpa using h)] at hf'
      rw [← hf']; simp
  · have hlen : i = l.length := by omega
    have hr := hk.2
    rw [hlen, List.drop_length] at hr
    simp only [go_sem, ↓reduceIte, Nat.reduceEqDiff, Nat.reduceMul, Nat.reduceAdd, Nat.reduceDiv, Nat.reduceSub, Nat.reduceLT, Nat.reduceLeDiff, Int.reduceLE, Int.reduceLT, Int.reduceToNat, Int.reduceEq, n30_0]
    exact ⟨fun h => by omega, fun _ => h2 hr.symm _ ⟨rfl, trivial⟩⟩
theorem wa30_11 (l : List Rec) (m : Value) (Q : Ex → Slots → LH → Prop) (hQ : ∀ σ, Has σ [(7, .c (.raw m)), (31, .c (.sl 8 (recs l))), (32, .c (.int .i64 l.length)), (33, .c (.int .i64 0))] → Q .norm σ []) : rnC Try.prog p11 Q [(0, .c (.sl 8 (recs l))), (7, .c (.raw m))] [] := by
  unfold p11
  simp only [go_sem, ↓reduceIte, Nat.reduceEqDiff, Nat.reduceMul, Nat.reduceAdd, Nat.reduceDiv, Nat.reduceSub, Nat.reduceLT, Nat.reduceLeDiff, Int.reduceLE, Int.reduceLT, Int.reduceToNat, Int.reduceEq]
  exact hQ _ ⟨rfl, rfl, rfl, rfl, trivial⟩
def s30 (l : List Rec) (m : Value) (i : Nat) : Slots := [(7, .c (.raw m)), (31, .c (.sl 8 (recs l))), (32, .c (.int .i64 l.length)), (33, .c (.int .i64 i))]
theorem wa30_12 (l : List Rec) (m : Value) (i : Nat) (Q : Ex → Slots → LH → Prop) (hQ : ∀ σ, Has σ ((34, .c (.bool (decide ((i : Int) < l.length)))) :: s30 l m i) → Q .norm σ []) : rnC Try.prog p12 Q (s30 l m i) [] := by
  unfold p12 s30
  simp only [go_sem, ↓reduceIte, Nat.reduceEqDiff, Nat.reduceMul, Nat.reduceAdd, Nat.reduceDiv, Nat.reduceSub, Nat.reduceLT, Nat.reduceLeDiff, Int.reduceLE, Int.reduceLT, Int.reduceToNat, Int.reduceEq]
  exact hQ _ ⟨rfl, rfl, rfl, rfl, rfl, trivial⟩
theorem wa30_c (l : List Rec) (m : Value) (i : Nat) (Q : Ex → Slots → LH → Prop) (h1 : i < l.length → ∀ σ, Has σ (s30 l m i) → Q .norm σ []) (h2 : l.length ≤ i → ∀ σ, Has σ (s30 l m i) → Q (.exit 2) σ []) : rnC Try.prog pc Q ((34, .c (.bool (decide ((i : Int) < l.length)))) :: s30 l m i) [] := by
  unfold pc s30
  simp only [go_sem, ↓reduceIte, Nat.reduceEqDiff, Nat.reduceMul, Nat.reduceAdd, Nat.reduceDiv, Nat.reduceSub, Nat.reduceLT, Nat.reduceLeDiff, Int.reduceLE, Int.reduceLT, Int.reduceToNat, Int.reduceEq]
  exact ⟨fun h => h1 (by omega) _ ⟨rfl, rfl, rfl, rfl, trivial⟩, fun h => h2 (by omega) _ ⟨rfl, rfl, rfl, rfl, trivial⟩⟩
theorem wa30_13 (l : List Rec) (m : Value) (i : Nat) (r : Rec) (hi : i < l.length) (e : (recs l).getD i .undef = r.cv) (Q : Ex → Slots → LH → Prop) (h1 : ∀ σ, Has σ ((8, .c (.int .i64 i)) :: (9, .ref 768 0) :: s30 l m i) → Q .norm σ [(768, robj r)]) : rnC Try.prog p13 Q (s30 l m i) [] := by
  unfold p13 s30
  simp only [go_sem, ↓reduceIte, Nat.reduceEqDiff, Nat.reduceMul, Nat.reduceAdd, Nat.reduceDiv, Nat.reduceSub, Nat.reduceLT, Nat.reduceLeDiff, Int.reduceLE, Int.reduceLT, Int.reduceToNat, Int.reduceEq, e]
  exact ⟨by omega, h1 _ ⟨rfl, rfl, rfl, rfl, rfl, rfl, trivial⟩⟩
theorem wa30_14 (l : List Rec) (m : Value) (i : Nat) (r : Rec) (Q : Ex → Slots → LH → Prop) (h1 : ∀ σ, Has σ ((10, .c (.int .i64 (famK r.kind))) :: (8, .c (.int .i64 i)) :: (9, .ref 768 0) :: s30 l m i) → Q .norm σ [(768, robj r)]) : rnC Try.prog p14 Q ((8, .c (.int .i64 i)) :: (9, .ref 768 0) :: s30 l m i) [(768, robj r)] := by
  unfold p14 s30 robj
  simp only [go_sem, ↓reduceIte, Nat.reduceEqDiff, Nat.reduceMul, Nat.reduceAdd, Nat.reduceDiv, Nat.reduceSub, Nat.reduceLT, Nat.reduceLeDiff, Int.reduceLE, Int.reduceLT, Int.reduceToNat, Int.reduceEq]
  refine callK_1 _ (fun _ => cw28 _) (by simp only [go_sem, ↓reduceIte, Nat.reduceEqDiff, Nat.reduceMul, Nat.reduceAdd, Nat.reduceDiv, Nat.reduceSub, Nat.reduceLT, Nat.reduceLeDiff, Int.reduceLE, Int.reduceLT, Int.reduceToNat, Int.reduceEq]) rfl rfl ?_
  simp only [go_sem, ↓reduceIte, Nat.reduceEqDiff, Nat.reduceMul, Nat.reduceAdd, Nat.reduceDiv, Nat.reduceSub, Nat.reduceLT, Nat.reduceLeDiff, Int.reduceLE, Int.reduceLT, Int.reduceToNat, Int.reduceEq]
  repeat (refine ⟨by (first | omega | (intro h1 h2; exact ⟨h1, h2⟩) | (intro h1; omega) | (intro h1; exact h1) | trivial), ?_⟩)
  exact h1 _ ⟨rfl, rfl, rfl, rfl, rfl, rfl, rfl, trivial⟩
def s30b (l : List Rec) (m : Value) (i : Nat) (f : Int) (os : List Rec) : Slots := (43, .osl 3000640 0 os.length) :: (10, .c (.int .i64 f)) :: (8, .c (.int .i64 i)) :: (9, .ref 768 0) :: s30 l m i
def h30b (r : Rec) (os : List Rec) : LH := [(768, robj r), (3000640, .row 8 (recs os))]
theorem wa30_4 (l : List Rec) (m : Value) (i : Nat) (r : Rec) (os : List Rec) (hol : os.length ≤ 4096) (hr : r.ok) (hrr : rightR r = 0) (ho : ∀ o ∈ os, o.ok ∧ rightR o = 0) (Q : Ex → Slots → LH → Prop)
    (h1 : os.any (fun o => clashP (famK r.kind) o r) = true → ∀ σ H, Has σ [(2, .c (.int .i64 i)), (3, .c (.int .i64 62))] → Q .ret σ H) (h2 : os.any (fun o => clashP (famK r.kind) o r) = false → ∀ σ, Has σ (s30b l m i (famK r.kind) os) → Q .norm σ [(3000640, .row 8 (recs os)), (768, robj r)]) :
    rnC Try.prog p4 Q ((45, .c (.int .i64 0)) :: (44, .c (.int .i64 os.length)) :: s30b l m i (famK r.kind) os) (h30b r os) := by
  unfold p4 s30b h30b s30 robj
  simp only [go_sem, ↓reduceIte, Nat.reduceEqDiff, Nat.reduceMul, Nat.reduceAdd, Nat.reduceDiv, Nat.reduceSub, Nat.reduceLT, Nat.reduceLeDiff, Int.reduceLE, Int.reduceLT, Int.reduceToNat, Int.reduceEq]
  refine loopR.by (α := Nat) (fun k => [(7, .c (.raw m)), (8, .c (.int .i64 i)), (9, .ref 768 0), (10, .c (.int .i64 (famK r.kind))), (31, .c (.sl 8 (recs l))), (32, .c (.int .i64 l.length)), (33, .c (.int .i64 i)), (43, .osl 3000640 0 os.length), (44, .c (.int .i64 os.length)), (45, .c (.int .i64 k))])
    (fun _ => [(3000640, .row 8 (recs os)), (768, .obj [.c (.int .i64 r.kind), .c (.int .i64 r.lo), .c (.int .i64 r.hi), .c (.int .i64 r.n), .c (.sl 1 (runes r.to)), .c (.str r.name), .c (.str r.other), .c (.flt r.weight)])]) (fun k => os.length - k)
    (fun k => k ≤ os.length ∧ (os.drop k).any (fun o => clashP (famK r.kind) o r) = os.any fun o => clashP (famK r.kind) o r) 0 ⟨Nat.zero_le _, rfl⟩ ?_ ?_
  · intro Y hY
    simp only [go_sem, ↓reduceIte, Nat.reduceEqDiff, Nat.reduceMul, Nat.reduceAdd, Nat.reduceDiv, Nat.reduceSub, Nat.reduceLT, Nat.reduceLeDiff, Int.reduceLE, Int.reduceLT, Int.reduceToNat, Int.reduceEq, n30_2]
    exact ⟨by simp, hY⟩
  intro k hk Y hY
  unfold l30_2
  rcases Nat.lt_or_ge k os.length with hlt | hge
  · obtain ⟨o, e, hm, hd⟩ := recs_at hlt
    have hf' := hk.2
    rw [hd, List.any_cons] at hf'
    simp only [go_sem, ↓reduceIte, Nat.reduceEqDiff, Nat.reduceMul, Nat.reduceAdd, Nat.reduceDiv, Nat.reduceSub, Nat.reduceLT, Nat.reduceLeDiff, Int.reduceLE, Int.reduceLT, Int.reduceToNat, Int.reduceEq, n30_2, e]
    refine ⟨fun _ => ?_, fun h => by omega⟩
    repeat (refine ⟨by (first | omega | (intro h1 h2; exact ⟨h1, h2⟩) | (intro h1; omega) | (intro h1; exact h1) | trivial), ?_⟩)
    refine callK_1 _ (fun _ => cw55 o r (ho o hm).1 hr (rightR_n (ho o hm).2) (rightR_n hrr)) (by simp only [go_sem, ↓reduceIte, Nat.reduceEqDiff, Nat.reduceMul, Nat.reduceAdd, Nat.reduceDiv, Nat.reduceSub, Nat.reduceLT, Nat.reduceLeDiff, Int.reduceLE, Int.reduceLT, Int.reduceToNat, Int.reduceEq]) rfl rfl ?_
    simp only [go_sem, ↓reduceIte, Nat.reduceEqDiff, Nat.reduceMul, Nat.reduceAdd, Nat.reduceDiv, Nat.reduceSub, Nat.reduceLT, Nat.reduceLeDiff, Int.reduceLE, Int.reduceLT, Int.reduceToNat, Int.reduceEq, e]
    repeat (refine ⟨by (first | omega | (intro h1 h2; exact ⟨h1, h2⟩) | (intro h1; omega) | (intro h1; exact h1) | trivial), ?_⟩)
    rw [succ64 hlt (by omega)]
    refine ⟨fun hh => ?_, fun hh => ?_⟩
    · refine h1 ?_ _ _ ⟨rfl, rfl, trivial⟩
      rw [← hf']
      have : clashP (famK r.kind) o r = true := clashP_t hh
      rw [this, Bool.true_or]
    · refine ⟨by simp, hY (k + 1) ⟨hlt, ?_⟩ (by omega)⟩
      have : clashP (famK r.kind) o r = false := clashP_f hh
      rw [← hf', this, Bool.false_or]
  · have hlen : k = os.length := by omega
    have hr := hk.2
    rw [hlen, List.drop_length] at hr
    simp only [go_sem, ↓reduceIte, Nat.reduceEqDiff, Nat.reduceMul, Nat.reduceAdd, Nat.reduceDiv, Nat.reduceSub, Nat.reduceLT, Nat.reduceLeDiff, Int.reduceLE, Int.reduceLT, Int.reduceToNat, Int.reduceEq, n30_2]
    exact ⟨fun h => by omega, fun _ => h2 hr.symm _ ⟨rfl, rfl, rfl, rfl, rfl, rfl, rfl, rfl, trivial⟩⟩
theorem wa30_22 (l : List Rec) (m : Value) (i : Nat) (hi : i < l.length) (hn : l.length ≤ 4096) (Q : Ex → Slots → LH → Prop) (h1 : ∀ σ, Has σ (s30 l m (i + 1)) → Q .norm σ []) : rnC Try.prog p22 Q (s30 l m i) [] := by
  unfold p22 s30
  simp only [go_sem, ↓reduceIte, Nat.reduceEqDiff, Nat.reduceMul, Nat.reduceAdd, Nat.reduceDiv, Nat.reduceSub, Nat.reduceLT, Nat.reduceLeDiff, Int.reduceLE, Int.reduceLT, Int.reduceToNat, Int.reduceEq]
  rw [succ64 hi (by omega)]
  exact h1 _ ⟨rfl, rfl, rfl, rfl, trivial⟩
theorem wa30_e (Q : Ex → Slots → LH → Prop) (h1 : ∀ σ, Has σ [(2, .c (.int .i64 0)), (3, .c (.int .i64 0))] → Q .ret σ []) : rnC Try.prog pe Q [] [] := by
  unfold pe
  simp only [go_sem, ↓reduceIte, Nat.reduceEqDiff, Nat.reduceMul, Nat.reduceAdd, Nat.reduceDiv, Nat.reduceSub, Nat.reduceLT, Nat.reduceLeDiff, Int.reduceLE, Int.reduceLT, Int.reduceToNat, Int.reduceEq]
  exact h1 _ ⟨rfl, rfl, trivial⟩
end Go.Proofs.Ytcpdnpaedkcebaa.V
namespace Go.Proofs.Ytcpdnpaedkcebaa.V
open Go Go.RowKit
set_option linter.unusedVariables false
set_option linter.unusedSimpArgs false
set_option maxRecDepth 100000
def l65_0 : IC := (.seq (.reg [⟨(some 52), 0, none, .bin .lss (.t 51) (.t 50)⟩]) (.seq (.cond (.t 52) .skip (.exit 0)) (.seq (.block 1 (.seq (.reg [⟨(some 53), 0, none, .ia (.t 49) (.t 51) 2⟩,
  ⟨(some 54), 0, none, .ld (.t 53) (some 2)⟩,
  ⟨(some 6), 13, none, .alloc [.nilfn, .nilfn]⟩,
  ⟨none, 0, none, .st (.t 6) (.t 54) (some 2)⟩]) (.reg [⟨(some 55), 0, none, .fa (.t 6) 1⟩,
  ⟨(some 56), 0, none, .ld (.t 55) none⟩,
  ⟨(some 57), 0, none, .mv (.t 0)⟩,
  ⟨(some 58), 14, none, .call (.t 56) [((.t 57), .ptr [none, none, none]), ((.t 3), .ptr [none, none, none, none, some 1, none, none, none])]⟩]))) (.reg [⟨(some 59), 0, none, .bin .add (.t 51) (.c (.int .i64 1))⟩,
  ⟨(some 51), 0, none, .mv (.t 59)⟩]))))
def n65_0 : Norm := ⟨[(0, .plain), (2, .plain), (3, .plain), (49, .own 2 1000049), (50, .plain), (51, .plain)], [(3000000, [.plain, .plain, .plain]), (64, [.plain, .plain, .plain, .plain, .plain, .plain, .plain, .plain]), (128, [.plain, .plain, .plain, .plain, .own 1 1000104, .plain, .plain, .plain])]⟩
def b65 : IC := (.seq (.reg [⟨(some 2), 1, none, .alloc [(.int .i64 0), (.int .i64 0), (.int .i64 0), (.int .i64 0), .nilsl, (.str ⟨#[]⟩), (.str ⟨#[]⟩), (.flt 0)]⟩]) (.seq (.seq (.draw (.take 0 ⟨(some 7), 0, none, .mv (.t 0)⟩ (.take 1 ⟨(some 8), 0, none, .nck (.t 7)⟩ (.take 2 ⟨(some 9), 0, none, .fa (.t 8) 1⟩ (.take 3 ⟨(some 10), 0, none, .ld (.t 9) none⟩ (.take 4 ⟨(some 11), 0, none, .mv (.t 0)⟩ (.take 5 ⟨(some 12), 0, none, .nck (.t 11)⟩ (.take 6 ⟨(some 13), 0, none, .fa (.t 12) 0⟩ (.take 7 ⟨(some 14), 0, none, .ld (.t 13) none⟩ (.take 8 ⟨(some 15), 0, none, .len false (.t 14)⟩ (.take 9 ⟨(some 16), 0, none, .bin .eql (.t 10) (.t 15)⟩ .done))))))))))) (.cond (.t 16) (.seq (.reg [⟨(some 17), 0, none, .mv (.t 0)⟩,
  ⟨(some 18), 0, none, .nck (.t 17)⟩,
  ⟨(some 19), 0, none, .fa (.t 18) 2⟩,
  ⟨none, 0, none, .st (.t 19) (.c (.int .i64 10)) none⟩]) (.seq (.reg [⟨(some 20), 0, none, .bld [(.int .i64 0), (.int .i64 0), (.int .i64 0), (.int .i64 0), .nilsl, (.str ⟨#[]⟩), (.str ⟨#[]⟩), (.flt 0)] []⟩,
  ⟨none, 0, none, .st (.t 2) (.t 20) (some 8)⟩]) .ret)) .skip)) (.seq (.draw (.take 0 ⟨(some 21), 0, none, .mv (.t 0)⟩ (.take 1 ⟨(some 22), 0, none, .nck (.t 21)⟩ (.take 2 ⟨(some 23), 0, none, .fa (.t 22) 0⟩ (.take 3 ⟨(some 24), 0, none, .ld (.t 23) none⟩ (.take 4 ⟨(some 25), 0, none, .mv (.t 0)⟩ (.take 5 ⟨(some 26), 0, none, .nck (.t 25)⟩ (.take 6 ⟨(some 27), 0, none, .fa (.t 26) 1⟩ (.take 7 ⟨(some 28), 0, none, .ld (.t 27) none⟩ (.take 8 ⟨(some 29), 0, none, .ia (.t 24) (.t 28) 1⟩ (.take 9 ⟨(some 30), 0, none, .ld (.t 29) none⟩ (.take 10 ⟨(some 31), 0, none, .conv .i64 (.t 30)⟩ (.take 11 ⟨(some 32), 0, none, .bld [(.int .i64 0), (.int .i64 0), (.int .i64 0), (.int .i64 0), .nilsl, (.str ⟨#[]⟩), (.str ⟨#[]⟩), (.flt 0)] [(0, (.t 31))]⟩ (.br 12 ⟨(some 3), 2, none, .alloc [(.int .i64 0), (.int .i64 0), (.int .i64 0), (.int .i64 0), .nilsl, (.str ⟨#[]⟩), (.str ⟨#[]⟩), (.flt 0)]⟩ [true, true, true, true, true, true, true, true, true, true, true, true] (.br 13 ⟨none, 0, none, .st (.t 3) (.t 32) (some 8)⟩ [false, false, false, false, false, false, false, false, false, false, false, false] .done .no) .no)))))))))))))) (.seq (.reg [⟨(some 33), 0, none, .fa (.t 3) 0⟩,
  ⟨(some 34), 0, none, .ld (.t 33) none⟩,
  ⟨(some 35), 3, none, .call (.c (.fn 57)) [((.t 34), .plain)]⟩,
  ⟨(some 4), 0, none, .mv (.t 35)⟩]) (.seq (.seq (.reg [⟨(some 36), 0, none, .mv (.t 4)⟩,
  ⟨(some 37), 0, none, .isnil (.t 36) false⟩]) (.cond (.t 37) (.seq (.reg [⟨(some 38), 0, none, .mv (.t 0)⟩,
  ⟨(some 39), 0, none, .nck (.t 38)⟩,
  ⟨(some 40), 0, none, .fa (.t 39) 2⟩,
  ⟨none, 0, none, .st (.t 40) (.c (.int .i64 60)) none⟩]) (.seq (.reg [⟨(some 41), 0, none, .bld [(.int .i64 0), (.int .i64 0), (.int .i64 0), (.int .i64 0), .nilsl, (.str ⟨#[]⟩), (.str ⟨#[]⟩), (.flt 0)] []⟩,
  ⟨none, 0, none, .st (.t 2) (.t 41) (some 8)⟩]) .ret)) .skip)) (.seq (.reg [⟨(some 42), 0, none, .mv (.t 0)⟩,
  ⟨(some 43), 0, none, .nck (.t 42)⟩,
  ⟨(some 44), 0, none, .fa (.t 43) 1⟩,
  ⟨(some 45), 0, none, .ld (.t 44) none⟩,
  ⟨(some 46), 0, none, .bin .add (.t 45) (.c (.int .i64 1))⟩,
  ⟨(some 47), 0, none, .nck (.t 42)⟩,
  ⟨(some 48), 0, none, .fa (.t 47) 1⟩,
  ⟨none, 0, none, .st (.t 48) (.t 46) none⟩]) (.seq (.seq (.reg [⟨(some 49), 0, none, .mv (.t 4)⟩,
  ⟨(some 50), 0, none, .len false (.t 49)⟩,
  ⟨(some 51), 0, none, .mv (.c (.int .i64 0))⟩]) (.block 0 (.loop n65_0 l65_0))) (.seq (.pubc 3 4 (.reg [⟨(some 60), 0, none, .ld (.t 3) (some 8)⟩,
  ⟨none, 0, none, .st (.t 2) (.t 60) (some 8)⟩])) .ret))))))))
def rs65 : List (Nat × Option Nat × Mode) := [(2, some 8, .plain)]
theorem chk65 : chkC Try.prog Try.f65.ntmps b65 (Try.f65.body.getD .skip) = true := by decide +kernel
theorem top65 {args : List Arg} {out : Out} (ha : args.length.ble Try.f65.ntmps = true) (h8 : args.length.ble 8 = true) (mss : List (List (Option Nat))) (hb : backOK args out.back)
    (hw : rnC Try.prog b65 (topQ rs65 args mss out) (slotsOf (argsAV argBase args 0) 0) (argsOb argBase args 0)) : CW Try.prog 65 args out :=
  CW.of Try.func65 rs65 mss (by decide +kernel) (by decide +kernel) (by decide +kernel) ha h8 chk65 hb hw
def readF (f : Nat) (b : List UInt8) (s : Int × Int) (r : Rec) : (Int × Int) × Rec :=
  if f = 82 then rLo b s r else if f = 85 then rHi b s r else if f = 87 then rN b s r else if f = 89 then rOne b s r else
  if f = 91 then rList b s r else if f = 94 then rName b s r else if f = 97 then rOther b s r else rWt b s r
theorem parts8_mem {k : Int} {p : Nat × Nat} (h : p ∈ parts8 k) : p = (81, 82) ∨ p = (84, 85) ∨ p = (86, 87) ∨ p = (88, 89) ∨ p = (90, 91) ∨ p = (92, 94) ∨ p = (96, 97) ∨ p = (98, 100) := by
  unfold parts8 at h
  (repeat' split at h) <;> simp at h <;> grind
theorem cwRead {k : Int} {p : Nat × Nat} (h : p ∈ parts8 k) (b : List UInt8) (s : Int × Int) (r : Rec) (hb : b.length < 1000000000000000) (hs : 0 ≤ s.1 ∧ s.1 ≤ b.length) (hto : r.to.length ≤ 1000) :
    CW Try.prog p.2 [rdA b s, recA r] ⟨[], [rdB b (readF p.2 b s r).1, recB (readF p.2 b s r).2]⟩ := by
  rcases parts8_mem h with h | h | h | h | h | h | h | h <;> subst h
  · exact cw82 b s r hb hs
  · exact cw85 b s r hb hs
  · exact cw87 b s r hb hs
  · exact cw89 b s r hb hs
  · exact cw91 b s r hb hs hto
  · exact cw94 b s r hb hs
  · exact cw97 b s r hb hs
  · exact cw100 b s r hb hs
theorem rdT_at {b : List UInt8} {a most : Int} (h : (rdT b a most).2.2 = 0) : 0 ≤ (rdT b a most).2.1 ∧ (rdT b a most).2.1 ≤ b.length := by
  unfold rdT at h ⊢
  by_cases h1 : (a < 0 ∨ (b.length : Int) < a) ∨ most < 0
  · rw [if_pos h1] at h; simp at h
  rw [if_neg h1] at h ⊢
  by_cases h2 : (rdU b a).2.2 ≠ 0
  · rw [if_pos h2] at h; exact absurd h h2
  rw [if_neg h2] at h ⊢
  by_cases h3 : most < (rdU b a).1
  · rw [if_pos h3] at h; simp at h
  rw [if_neg h3] at h ⊢
  by_cases h4 : (b.length : Int) - (rdU b a).2.1 < (rdU b a).1
  · rw [if_pos h4] at h; simp at h
  rw [if_neg h4]
  have := (rdU_spec b a).1 (Decidable.of_not_not h2)
  simp only
  omega
theorem textP_at {b : List UInt8} {s : Int × Int} (hs : 0 ≤ s.1 ∧ s.1 ≤ b.length) : 0 ≤ (textP b s).2.1 ∧ (textP b s).2.1 ≤ b.length := by
  unfold textP
  split
  · exact hs
  · simp only
    split
    · rename_i h
      exact rdT_at h
    · exact hs
theorem fltP_at {b : List UInt8} {s : Int × Int} (hs : 0 ≤ s.1 ∧ s.1 ≤ b.length) : 0 ≤ (fltP b s).2.1 ∧ (fltP b s).2.1 ≤ b.length := by
  unfold fltP
  split
  · exact hs
  · simp only
    split
    · rename_i h
      unfold rdF at h ⊢
      split at h
      · simp at h
      · split at h
        · simp at h
        · rename_i h1 h2
          rw [if_neg h1, if_neg h2]
          simp only
          omega
    · exact hs
theorem listP_at {b : List UInt8} : ∀ (k : Nat) (s : Int × Int) (to : List Int), (0 ≤ s.1 ∧ s.1 ≤ b.length) → 0 ≤ (listP b k s to).1.1 ∧ (listP b k s to).1.1 ≤ b.length
  | 0, s, to, hs => hs
  | k + 1, s, to, hs => by
    rw [listP]
    split
    · exact hs
    · exact listP_at k _ _ (numP_at hs)
theorem listP_len {b : List UInt8} : ∀ (k : Nat) (s : Int × Int) (to : List Int), (listP b k s to).2.length ≤ to.length + k
  | 0, s, to => Nat.le_refl _
  | k + 1, s, to => by
    rw [listP]
    split
    · simp
    · have := listP_len (b := b) k (numP b 1114111 s).2 (to ++ [IntKind.i32.wrap (numP b 1114111 s).1])
      simp only [List.length_append, List.length_singleton] at this
      omega
theorem listP_bad {b : List UInt8} {s : Int × Int} (h : s.2 ≠ 0) (to : List Int) : ∀ k, listP b k s to = (s, to)
  | 0 => rfl
  | k + 1 => by rw [listP, if_pos h]
def Rec.fine (r : Rec) : Prop := r.ok ∧ r.weight < 18446744073709551616
theorem wrap_ok (x : Int) : i64ok (IntKind.i64.wrap x) := by unfold i64ok; rw [wrap_i64]; omega
theorem wrap_ok32 (x : Int) : i32ok (IntKind.i32.wrap x) := by unfold i32ok; rw [wrap_i32]; omega
theorem listP_ok {b : List UInt8} : ∀ (k : Nat) (s : Int × Int) (to : List Int), (∀ c ∈ to, i32ok c) → ∀ c ∈ (listP b k s to).2, i32ok c
  | 0, s, to, h => h
  | k + 1, s, to, h => by
    rw [listP]
    split
    · exact h
    · refine listP_ok k _ _ fun c hc => ?_
      rcases List.mem_append.1 hc with hc | hc
      · exact h c hc
      · rw [List.mem_singleton.1 hc]; exact wrap_ok32 _
theorem readF_spec {k : Int} {p : Nat × Nat} (h : p ∈ parts8 k) (b : List UInt8) (s : Int × Int) (r : Rec) (hs : 0 ≤ s.1 ∧ s.1 ≤ b.length) (hr : r.fine) :
    (0 ≤ (readF p.2 b s r).1.1 ∧ (readF p.2 b s r).1.1 ≤ b.length) ∧ (readF p.2 b s r).2.to.length ≤ r.to.length + 24 ∧ (readF p.2 b s r).2.fine := by
  obtain ⟨⟨o1, o2, o3, o4, o5⟩, o6⟩ := hr
  have hn := @numP_val b 1114111 s
  have hi : i64ok (numP b 1114111 s).1 := by unfold i64ok; omega
  rcases parts8_mem h with h | h | h | h | h | h | h | h <;> subst h
  · exact ⟨numP_at hs, Nat.le_add_right _ _, ⟨o1, hi, hi, o4, o5⟩, o6⟩
  · exact ⟨numP_at hs, Nat.le_add_right _ _, ⟨o1, o2, wrap_ok _, o4, o5⟩, o6⟩
  · exact ⟨numP_at hs, Nat.le_add_right _ _, ⟨o1, o2, o3, hi, o5⟩, o6⟩
  · exact ⟨numP_at hs, by show 1 ≤ _; omega, ⟨o1, o2, o3, o4, fun c hc => by rw [List.mem_singleton.1 hc]; exact wrap_ok32 _⟩, o6⟩
  · refine ⟨listP_at _ _ _ (numP_at hs), ?_, ⟨o1, o2, o3, o4, listP_ok _ _ _ o5⟩, o6⟩
    show (listP b (numP b 24 s).1.toNat (numP b 24 s).2 r.to).2.length ≤ _
    have h24 := @numP_val b 24 s
    by_cases he : (numP b 24 s).2.2 = 0
    · have := listP_len (b := b) (numP b 24 s).1.toNat (numP b 24 s).2 r.to
      have := h24.2.2 he (by decide)
      omega
    · rw [listP_bad he]; exact Nat.le_add_right _ _
  · exact ⟨textP_at hs, Nat.le_add_right _ _, ⟨o1, o2, o3, o4, o5⟩, o6⟩
  · exact ⟨textP_at hs, Nat.le_add_right _ _, ⟨o1, o2, o3, o4, o5⟩, o6⟩
  · refine ⟨fltP_at hs, Nat.le_add_right _ _, ⟨o1, o2, o3, o4, o5⟩, ?_⟩
    show (fltP b s).1 < _
    unfold fltP
    split
    · simp
    · unfold rdF
      split
      · simp
      · split
        · simp
        · have := leV_lt (cutL b s.1 8)
          have h8 : (cutL b s.1 8).length ≤ 8 := by unfold cutL; rw [List.length_take]; exact Nat.min_le_left _ _
          have := Nat.pow_le_pow_right (show 0 < 256 by decide) h8
          have e : (256 : Nat) ^ 8 = 18446744073709551616 := by decide
          simp only
          omega
def readsF (b : List UInt8) : List (Nat × Nat) → (Int × Int) → Rec → (Int × Int) × Rec
  | [], s, r => (s, r)
  | p :: l, s, r => readsF b l (readF p.2 b s r).1 (readF p.2 b s r).2
def zeroR (k : Int) : Rec := ⟨k, 0, 0, 0, [], ⟨#[]⟩, ⟨#[]⟩, 0⟩
def zeroN : CV := .agg [.int .i64 0, .int .i64 0, .int .i64 0, .int .i64 0, .nilsl, .str ⟨#[]⟩, .str ⟨#[]⟩, .flt 0]
def kindAt (b : List UInt8) (a : Int) : Int := ((b.getD a.toNat 0).toNat : Int)
theorem w65 (b : List UInt8) (a : Int) (hb : b.length < 1000000000000000) (hs : 0 ≤ a ∧ a ≤ b.length) (Q : Ex → Slots → LH → Prop)
    (hend : a = b.length → ∀ σ H, Slots.get σ 2 = .ref 64 0 → LH.get H 64 = some (.obj [.c (.int .i64 0), .c (.int .i64 0), .c (.int .i64 0), .c (.int .i64 0), .c .nilsl, .c (.str ⟨#[]⟩), .c (.str ⟨#[]⟩), .c (.flt 0)]) → LH.get H 3000000 = some (rdH b (a, 10)) → Q .ret σ H)
    (hkind : a < b.length → parts8 (kindAt b a) = [] → ∀ σ H, Slots.get σ 2 = .ref 64 0 → LH.get H 64 = some (.obj [.c (.int .i64 0), .c (.int .i64 0), .c (.int .i64 0), .c (.int .i64 0), .c .nilsl, .c (.str ⟨#[]⟩), .c (.str ⟨#[]⟩), .c (.flt 0)]) → LH.get H 3000000 = some (rdH b (a, 60)) → Q .ret σ H)
    (hok : a < b.length → parts8 (kindAt b a) ≠ [] → ∀ σ H, Slots.get σ 2 = .ref 64 0 →
      LH.get H 64 = some (robj (readsF b (parts8 (kindAt b a)) (a + 1, 0) (zeroR (kindAt b a))).2) → LH.get H 3000000 = some (rdH b (readsF b (parts8 (kindAt b a)) (a + 1, 0) (zeroR (kindAt b a))).1) → Q .ret σ H) :
    rnC Try.prog b65 Q [(0, .ref 3000000 0)] [(3000000, rdH b (a, 0))] := by
  unfold b65 rdH
  rcases Int.lt_or_eq_of_le hs.2 with hlt | heq
  · have eb := bys_at (l := b) (k := a.toNat) (by omega)
    have hk : kindAt b a = (b[a.toNat]'(by omega)).toNat := by unfold kindAt; rw [List.getD_eq_getElem?_getD, List.getElem?_eq_getElem (by omega)]; rfl
    have hc := (b[a.toNat]'(by omega)).toNat_lt
    have e1 : IntKind.i64.wrap ((b[a.toNat]'(by omega)).toNat : Int) = kindAt b a := by rw [hk, wrap_i64]; omega
    simp only [go_sem, ↓reduceIte, Nat.reduceEqDiff, Nat.reduceMul, Nat.reduceAdd, Nat.reduceDiv, Nat.reduceSub, Nat.reduceLT, Nat.reduceLeDiff, Int.reduceLE, Int.reduceLT, Int.reduceToNat, Int.reduceEq, eb, e1]
    refine ⟨fun h => by omega, fun _ => ⟨by omega, by omega, ?_⟩⟩
    clear e1 eb
    by_cases hp : parts8 (kindAt b a) = []
    · refine callK_1 _ (fun _ => cw57n (kindAt b a) (parts8_nil hp)) (by simp only [go_sem, ↓reduceIte, Nat.reduceEqDiff, Nat.reduceMul, Nat.reduceAdd, Nat.reduceDiv, Nat.reduceSub, Nat.reduceLT, Nat.reduceLeDiff, Int.reduceLE, Int.reduceLT, Int.reduceToNat, Int.reduceEq]) rfl rfl ?_
      simp only [go_sem, ↓reduceIte, Nat.reduceEqDiff, Nat.reduceMul, Nat.reduceAdd, Nat.reduceDiv, Nat.reduceSub, Nat.reduceLT, Nat.reduceLeDiff, Int.reduceLE, Int.reduceLT, Int.reduceToNat, Int.reduceEq]
      exact hkind hlt hp _ _ rfl rfl rfl
    have hlen : (fcv (parts8 (kindAt b a))).length = (parts8 (kindAt b a)).length := by simp [fcv]
    have hpos : (parts8 (kindAt b a)).length ≠ 0 := fun h => hp (List.length_eq_zero_iff.1 h)
    have hok' := hok hlt hp
    have h4 : (parts8 (kindAt b a)).length ≤ 4 := by unfold parts8; (repeat' split) <;> simp
    refine callK_O 2 (fcv (parts8 (kindAt b a))) (fun _ => cw57 (kindAt b a)) (by simp only [go_sem, ↓reduceIte, Nat.reduceEqDiff, Nat.reduceMul, Nat.reduceAdd, Nat.reduceDiv, Nat.reduceSub, Nat.reduceLT, Nat.reduceLeDiff, Int.reduceLE, Int.reduceLT, Int.reduceToNat, Int.reduceEq]) rfl rfl ?_
    simp only [go_sem, ↓reduceIte, Nat.reduceEqDiff, Nat.reduceMul, Nat.reduceAdd, Nat.reduceDiv, Nat.reduceSub, Nat.reduceLT, Nat.reduceLeDiff, Int.reduceLE, Int.reduceLT, Int.reduceToNat, Int.reduceEq]
    repeat (refine ⟨by (first | omega | (intro h1 h2; exact ⟨h1, h2⟩) | (intro h1; omega) | (intro h1; exact h1) | trivial), ?_⟩)
    have e0 : IntKind.i64.wrap (a + 1) = a + 1 := by rw [wrap_i64]; omega
    rw [e0, hlen]
    have hmem : ∀ p ∈ parts8 (kindAt b a), p ∈ parts8 (kindAt b a) := fun _ h => h
    clear hend hkind hok
    generalize hL : parts8 (kindAt b a) = L at *
    refine loopR.by (α := Nat × (Int × Int) × Rec) (fun p => [(0, .ref 3000000 0), (2, .ref 64 0), (3, .ref 128 0), (49, .osl 1000049 0 L.length), (50, .c (.int .i64 L.length)), (51, .c (.int .i64 p.1))])
      (fun p => [(1000049, .row 2 (fcv L)), (3000000, .obj [.c (.sl 1 (bys b)), .c (.int .i64 p.2.1.1), .c (.int .i64 p.2.1.2)]), (64, .obj [.c (.int .i64 0), .c (.int .i64 0), .c (.int .i64 0), .c (.int .i64 0), .c .nilsl, .c (.str ⟨#[]⟩), .c (.str ⟨#[]⟩), .c (.flt 0)]),
        (128, .obj [.c (.int .i64 p.2.2.kind), .c (.int .i64 p.2.2.lo), .c (.int .i64 p.2.2.hi), .c (.int .i64 p.2.2.n), .osl 1000104 0 p.2.2.to.length, .c (.str p.2.2.name), .c (.str p.2.2.other), .c (.flt p.2.2.weight)]), (1000104, .row 1 (runes p.2.2.to))])
      (fun p => L.length - p.1) (fun p => p.1 ≤ L.length ∧ (0 ≤ p.2.1.1 ∧ p.2.1.1 ≤ b.length) ∧ p.2.2.to.length ≤ 24 * p.1 ∧ p.2.2.fine ∧ readsF b (L.drop p.1) p.2.1 p.2.2 = readsF b L (a + 1, 0) (zeroR (kindAt b a))) (0, (a + 1, 0), zeroR (kindAt b a))
      ⟨Nat.zero_le _, by simp only; omega, Nat.le_refl _, ⟨⟨by unfold kindAt zeroR i64ok; have := (b.getD a.toNat 0).toNat_lt; simp only; omega, by simp [zeroR, i64ok], by simp [zeroR, i64ok], by simp [zeroR, i64ok], by simp [zeroR]⟩, by simp [zeroR]⟩, rfl⟩ ?_ ?_
    · intro Y hY
      simp only [go_sem, ↓reduceIte, Nat.reduceEqDiff, Nat.reduceMul, Nat.reduceAdd, Nat.reduceDiv, Nat.reduceSub, Nat.reduceLT, Nat.reduceLeDiff, Int.reduceLE, Int.reduceLT, Int.reduceToNat, Int.reduceEq, n65_0, hlen]
      exact ⟨by simp, hY⟩
    intro p hp Y hY
    obtain ⟨k, s, r⟩ := p
    obtain ⟨hk, hs2, hto, hfine, heq⟩ := hp
    simp only at hk hs2 hto hfine heq
    unfold l65_0
    rcases Nat.lt_or_ge k L.length with hkl | hkg
    · have ee : (fcv L).getD k .undef = .agg [.fn L[k].1, .fn L[k].2] := by simp [fcv, List.getD_eq_getElem?_getD, hkl]
      have hd : L.drop k = L[k] :: L.drop (k + 1) := List.drop_eq_getElem_cons hkl
      rw [hd, readsF] at heq
      have hm : L[k] ∈ L := List.getElem_mem hkl
      have hm8 : L[k] ∈ parts8 (kindAt b a) := by rw [hL]; exact hm
      have hcall := cwRead hm8 b s r hb hs2 (by omega)
      obtain ⟨q1, q2, q3⟩ := readF_spec hm8 b s r hs2 hfine
      generalize L[k] = p at ee heq hcall q1 q2 q3
      generalize readF p.2 b s r = N at heq hcall q1 q2 q3
      obtain ⟨s', r'⟩ := N
      simp only at heq hcall q1 q2 q3
      simp only [go_sem, ↓reduceIte, Nat.reduceEqDiff, Nat.reduceMul, Nat.reduceAdd, Nat.reduceDiv, Nat.reduceSub, Nat.reduceLT, Nat.reduceLeDiff, Int.reduceLE, Int.reduceLT, Int.reduceToNat, Int.reduceEq, n65_0, ee, hlen]
      refine ⟨fun _ => ?_, fun h => by omega⟩
      refine ⟨by omega, ?_⟩
      refine callK_i ⟨[], [[.cv (.sl 1 (bys b)), .cv (.int .i64 s'.1), .cv (.int .i64 s'.2)], [.cv (.int .i64 r'.kind), .cv (.int .i64 r'.lo), .cv (.int .i64 r'.hi), .cv (.int .i64 r'.n), .own 1 (runes r'.to), .cv (.str r'.name), .cv (.str r'.other), .cv (.flt r'.weight)]]⟩ (fun _ => ?_) ⟨by simp only [go_sem, ↓reduceIte, Nat.reduceEqDiff, Nat.reduceMul, Nat.reduceAdd, Nat.reduceDiv, Nat.reduceSub, Nat.reduceLT, Nat.reduceLeDiff, Int.reduceLE, Int.reduceLT, Int.reduceToNat, Int.reduceEq], .inl rfl, ⟨by simp only [go_sem, ↓reduceIte, Nat.reduceEqDiff, Nat.reduceMul, Nat.reduceAdd, Nat.reduceDiv, Nat.reduceSub, Nat.reduceLT, Nat.reduceLeDiff, Int.reduceLE, Int.reduceLT, Int.reduceToNat, Int.reduceEq], by simp, by simp, by simp⟩, ?_⟩
      · exact hcall
      simp only [go_sem, ↓reduceIte, Nat.reduceEqDiff, Nat.reduceMul, Nat.reduceAdd, Nat.reduceDiv, Nat.reduceSub, Nat.reduceLT, Nat.reduceLeDiff, Int.reduceLE, Int.reduceLT, Int.reduceToNat, Int.reduceEq, hlen]
      rw [succ64 hkl (by omega)]
      exact ⟨by simp, hY (k + 1, s', r') ⟨by simp only; omega, q1, by simp only; omega, q3, heq⟩ (by simp only; omega)⟩
    · have : k = L.length := by omega
      subst this
      have ee : (fcv L).getD L.length .undef = .undef := by
        rw [List.getD_eq_getElem?_getD, List.getElem?_eq_none (by omega)]; rfl
      rw [List.drop_length, readsF] at heq
      rw [← heq] at hok'
      have ht : List.take r.to.length (runes r.to) = runes r.to := take_runes r.to
      simp only [go_sem, ↓reduceIte, Nat.reduceEqDiff, Nat.reduceMul, Nat.reduceAdd, Nat.reduceDiv, Nat.reduceSub, Nat.reduceLT, Nat.reduceLeDiff, Int.reduceLE, Int.reduceLT, Int.reduceToNat, Int.reduceEq, n65_0, ee, hlen, ht]
      refine ⟨fun h => by omega, fun _ => ?_⟩
      exact hok' _ _ rfl rfl rfl
  · have : a.toNat = b.length := by omega
    have eb := bys_out (l := b) (k := a.toNat) (by omega)
    simp only [go_sem, ↓reduceIte, Nat.reduceEqDiff, Nat.reduceMul, Nat.reduceAdd, Nat.reduceDiv, Nat.reduceSub, Nat.reduceLT, Nat.reduceLeDiff, Int.reduceLE, Int.reduceLT, Int.reduceToNat, Int.reduceEq, eb]
    exact ⟨fun h => hend h _ _ rfl rfl rfl, fun h => absurd heq h⟩
theorem retP8 {t : Nat} {b : List UInt8} {s s' : Int × Int} {σ : Slots} {H : LH} {c0 c1 c2 c3 c4 c5 c6 c7 : CV} (h : Slots.get σ t = .ref 64 0)
    (hg : LH.get H 64 = some (.obj [.c c0, .c c1, .c c2, .c c3, .c c4, .c c5, .c c6, .c c7])) (ho : LH.get H 3000000 = some (rdH b s')) :
    topQ [(t, some 8, .plain)] [rdA b s] [[none, none, none]] ⟨[.cv (.agg [c0, c1, c2, c3, c4, c5, c6, c7])], [rdB b s']⟩ .ret σ H := by
  show retW σ H _ _ _ _
  unfold retW
  simp only [retVals, h, loadW, ungW, hg, List.drop_zero, argsW, rdA, backL, argBase, Nat.mul_zero, Nat.add_zero, ho, rdH, argW, List.length_cons, List.length_nil, cellsW, true_and, List.append_nil, List.nil_append, backArgs, rdB, List.map_nil, List.map_cons]
  refine ⟨by decide, ?_⟩
  simp only [List.take, closedW]
  exact ⟨by decide, ⟨rfl, trivial⟩, by simp⟩
def recS (b : List UInt8) (a : Int) : Int × Int :=
  if a = b.length then (a, 10) else if parts8 (kindAt b a) = [] then (a, 60) else (readsF b (parts8 (kindAt b a)) (a + 1, 0) (zeroR (kindAt b a))).1
def recC (b : List UInt8) (a : Int) : CV :=
  if a = b.length then zeroN else if parts8 (kindAt b a) = [] then zeroN else (readsF b (parts8 (kindAt b a)) (a + 1, 0) (zeroR (kindAt b a))).2.cv
theorem cw65 (b : List UInt8) (a : Int) (hb : b.length < 1000000000000000) (hs : 0 ≤ a ∧ a ≤ b.length) : CW Try.prog 65 [rdA b (a, 0)] ⟨[.cv (recC b a)], [rdB b (recS b a)]⟩ := by
  refine top65 rfl rfl [[none, none, none]] ⟨rfl, trivial⟩ (w65 b a hb hs _ (fun h σ H x y z => ?_) (fun h h2 σ H x y z => ?_) (fun h h2 σ H x y z => ?_))
  · unfold recC recS
    rw [if_pos h, if_pos h]
    exact retP8 x y z
  · unfold recC recS
    have ha : ¬a = (b.length : Int) := by omega
    rw [if_neg ha, if_neg ha, if_pos h2, if_pos h2]
    exact retP8 x y z
  · unfold recC recS
    have ha : ¬a = (b.length : Int) := by omega
    rw [if_neg ha, if_neg ha, if_neg h2, if_neg h2]
    exact retP8 x y z
end Go.Proofs.Ytcpdnpaedkcebaa.V
namespace Go.Proofs.Ytcpdnpaedkcebaa.V
open Go Go.RowKit
set_option linter.unusedVariables false
set_option linter.unusedSimpArgs false
def st (r : Rec) : Int := if r.kind = 4 then r.n else 1
def Rec.span (r : Rec) : Prop := r.ok ∧ r.kind ≠ 15 ∧ 0 ≤ r.lo ∧ r.lo ≤ r.hi ∧ r.hi ≤ 1114111 ∧ 1 ≤ st r ∧ st r ≤ 64
def Says (r : Rec) (c : Int) : Prop := r.lo ≤ c ∧ c ≤ r.hi ∧ st r ∣ c - r.lo
theorem u64_id {c : Int} (h : 0 ≤ c) (h2 : c ≤ 2000000) : IntKind.u64.wrap c = c := by rw [wrap_u64]; omega
theorem i64_id {c : Int} (h : -9000000000 ≤ c) (h2 : c ≤ 9000000000) : IntKind.i64.wrap c = c := by rw [wrap_i64]; omega
theorem tmod_zero {a b : Int} (ha : 0 ≤ a) : a.tmod b = 0 ↔ b ∣ a := Int.dvd_iff_tmod_eq_zero.symm
theorem speaksR_iff {r : Rec} (h : r.span) (c : Int) : speaksR r c = true ↔ Says r c := by
  obtain ⟨_, h15, h1, h2, h3, h4, h5⟩ := h
  unfold speaksR Says st at *
  by_cases hc : ((c < r.lo ∨ r.hi < c) ∨ c < 0) ∨ 1114111 < c
  · rw [if_pos hc]
    simp only [Bool.false_eq_true, false_iff]
    intro ⟨a, b, _⟩
    omega
  · rw [if_neg hc]
    have hlo : r.lo ≤ c := by omega
    have hhi : c ≤ r.hi := by omega
    by_cases h4' : r.kind = 4
    · simp only [h4', if_true] at h4 h5 ⊢
      rw [u64_id (c := c) (by omega) (by omega), u64_id (c := r.lo) (by omega) (by omega), u64_id (c := r.n) (by omega) (by omega), u64_id (by omega) (by omega)]
      simp only [decide_true, Bool.not_true, Bool.false_or, Bool.and_eq_true, decide_eq_true_eq, beq_iff_eq]
      rw [tmod_zero (by omega)]
      exact ⟨fun h => ⟨hlo, hhi, h.2⟩, fun h => ⟨by omega, h.2.2⟩⟩
    · simp only [h4', decide_false, Bool.not_false, Bool.true_or, if_false, true_iff]
      exact ⟨hlo, hhi, Int.one_dvd _⟩
theorem speaksF_iff {r : Rec} (h : r.span) (c : Int) : speaksF r c = true ↔ Says r c := by
  obtain ⟨_, h15, h1, h2, h3, h4, h5⟩ := h
  have hs : stepR r = st r := by
    unfold stepR st at *
    split
    · rename_i hk; rw [if_pos hk] at h4; rw [if_neg (by omega)]
    · rfl
  unfold speaksF Says
  rw [hs]
  by_cases hc : r.lo ≤ c ∧ c ≤ r.hi
  · rw [u64_id (c := c) (by omega) (by omega), u64_id (c := r.lo) (by omega) (by omega), u64_id (c := st r) (by omega) (by omega), u64_id (by omega) (by omega)]
    simp only [Bool.and_eq_true, decide_eq_true_eq, Bool.not_eq_true', decide_eq_false_iff_not]
    rw [tmod_zero (by omega)]
    constructor
    · rintro ⟨⟨⟨⟨⟨⟨_, _⟩, _⟩, _⟩, a⟩, b⟩, d⟩; exact ⟨a, b, d⟩
    · rintro ⟨a, b, d⟩; exact ⟨⟨⟨⟨⟨⟨h15, by omega⟩, by omega⟩, by omega⟩, a⟩, b⟩, d⟩
  · simp only [Bool.and_eq_true, decide_eq_true_eq, Bool.not_eq_true', decide_eq_false_iff_not]
    constructor
    · rintro ⟨⟨⟨⟨⟨⟨_, _⟩, _⟩, _⟩, a⟩, b⟩, d⟩; exact absurd ⟨a, b⟩ hc
    · rintro ⟨a, b, d⟩; omega
def Meets (a b : Rec) : Prop := ∃ c, Says a c ∧ Says b c
theorem Meets.symm {a b : Rec} (h : Meets a b) : Meets b a := let ⟨c, h1, h2⟩ := h; ⟨c, h2, h1⟩
theorem meets_iff {a b : Rec} (ha : a.span) (hb : b.span) {c0 : Int} (q0 : Int) (hc0 : c0 = a.lo + q0 * st a) (h1 : max a.lo b.lo ≤ c0) (h2 : c0 < max a.lo b.lo + st a) :
    Meets a b ↔ ∃ j : Nat, j < 64 ∧ c0 + j * st a ≤ min a.hi b.hi ∧ Says b (c0 + j * st a) := by
  obtain ⟨_, _, a1, a2, a3, a4, a5⟩ := ha
  obtain ⟨_, _, b1, b2, b3, b4, b5⟩ := hb
  constructor
  · rintro ⟨c, ⟨p1, p2, q, hq⟩, r1, r2, s, hs⟩
    have e : c = a.lo + st a * q := by omega
    have hqq : q0 ≤ q := by
      rcases Int.lt_or_le q q0 with h | h
      · exfalso
        have : st a * (q + 1) ≤ st a * q0 := Int.mul_le_mul_of_nonneg_left (by omega) (by omega)
        rw [Int.mul_add, Int.mul_one] at this
        rw [Int.mul_comm q0] at hc0
        omega
      · exact h
    have hm : (q - q0) % st b < st b := Int.emod_lt_of_pos _ (by omega)
    have hm0 : 0 ≤ (q - q0) % st b := Int.emod_nonneg _ (by omega)
    have hle : (q - q0) % st b ≤ q - q0 := by
      have := Int.emod_add_mul_ediv (q - q0) (st b)
      have h3 : 0 ≤ (q - q0) / st b := Int.ediv_nonneg (by omega) (by omega)
      have h4 : 0 ≤ st b * ((q - q0) / st b) := Int.mul_nonneg (by omega) h3
      omega
    have hj : (((q - q0) % st b).toNat : Int) = (q - q0) % st b := Int.toNat_of_nonneg hm0
    have hdiff : c - (c0 + (q - q0) % st b * st a) = ((q - q0) - (q - q0) % st b) * st a := by
      rw [hc0, e, Int.sub_mul, Int.sub_mul, Int.mul_comm (st a) q]
      omega
    have hge : 0 ≤ ((q - q0) - (q - q0) % st b) * st a := Int.mul_nonneg (by omega) (by omega)
    have hpos : 0 ≤ (q - q0) % st b * st a := Int.mul_nonneg hm0 (by omega)
    refine ⟨((q - q0) % st b).toNat, by omega, ?_, ?_⟩
    · rw [hj]; omega
    · rw [hj]
      refine ⟨by omega, by omega, ?_⟩
      have hd1 : st b ∣ ((q - q0) - (q - q0) % st b) * st a := Int.dvd_mul_of_dvd_left Int.dvd_self_sub_emod
      have : c0 + (q - q0) % st b * st a - b.lo = st b * s - ((q - q0) - (q - q0) % st b) * st a := by omega
      rw [this]
      exact Int.dvd_sub (Int.dvd_mul_right _ _) hd1
  · rintro ⟨j, hj, h3, h4⟩
    refine ⟨c0 + j * st a, ⟨?_, by omega, ?_⟩, h4⟩
    · have : 0 ≤ (j : Int) * st a := Int.mul_nonneg (by omega) (by omega)
      omega
    · rw [hc0]
      have : a.lo + q0 * st a + j * st a - a.lo = (q0 + j) * st a := by rw [Int.add_mul]; omega
      rw [this]
      exact Int.dvd_mul_left _ _
theorem first_spec {lo m s : Int} (h0 : 0 ≤ lo) (h1 : lo ≤ m) (h2 : m ≤ 1114111) (h3 : 1 ≤ s) (h4 : s ≤ 64) :
    ∃ q, IntKind.i64.wrap (lo + IntKind.i64.wrap (IntKind.i64.wrap ((IntKind.i64.wrap (IntKind.i64.wrap (IntKind.i64.wrap (m - lo) + s) - 1)).tdiv s) * s)) = lo + q * s ∧ m ≤ lo + q * s ∧ lo + q * s < m + s := by
  have e1 : IntKind.i64.wrap (m - lo) = m - lo := i64_id (by omega) (by omega)
  have e2 : IntKind.i64.wrap (m - lo + s) = m - lo + s := i64_id (by omega) (by omega)
  have e3 : IntKind.i64.wrap (m - lo + s - 1) = m - lo + s - 1 := i64_id (by omega) (by omega)
  have e4 : (m - lo + s - 1).tdiv s = (m - lo + s - 1) / s := Int.tdiv_eq_ediv_of_nonneg (by omega)
  have d1 := Int.emod_add_mul_ediv (m - lo + s - 1) s
  have d2 := Int.emod_nonneg (m - lo + s - 1) (show s ≠ 0 by omega)
  have d3 := Int.emod_lt_of_pos (m - lo + s - 1) (show 0 < s by omega)
  have d4 : 0 ≤ (m - lo + s - 1) / s := Int.ediv_nonneg (by omega) (by omega)
  have d5 : (m - lo + s - 1) / s * s = s * ((m - lo + s - 1) / s) := Int.mul_comm _ _
  have d6 : (m - lo + s - 1) / s ≤ m - lo + s - 1 := Int.ediv_le_self _ (by omega)
  refine ⟨(m - lo + s - 1) / s, ?_, by omega, by omega⟩
  rw [e1, e2, e3, e4, i64_id (c := (m - lo + s - 1) / s) (by omega) (by omega), i64_id (c := (m - lo + s - 1) / s * s) (by omega) (by omega), i64_id (by omega) (by omega)]
theorem clashC_iff {b : Rec} (hb : b.span) {hi s : Int} (h1 : 1 ≤ s) (h2 : s ≤ 64) : ∀ (k : Nat) (c : Int), 0 ≤ c → c + k * 64 ≤ 9000000 → (clashC b hi s k c = true ↔ ∃ j : Nat, j < k ∧ c + j * s ≤ hi ∧ Says b (c + j * s))
  | 0, c, _, _ => by simp [clashC]
  | k + 1, c, h0, h3 => by
    have hw : IntKind.i64.wrap (c + s) = c + s := i64_id (by omega) (by omega)
    have ih := clashC_iff hb (hi := hi) h1 h2 k (c + s) (by omega) (by omega)
    have step : (∃ j : Nat, j < k + 1 ∧ c + j * s ≤ hi ∧ Says b (c + j * s)) ↔ (c ≤ hi ∧ Says b c) ∨ ∃ j : Nat, j < k ∧ (c + s) + j * s ≤ hi ∧ Says b ((c + s) + j * s) := by
      have e : ∀ j : Nat, c + ((j + 1 : Nat) : Int) * s = (c + s) + j * s := fun j => by
        rw [Int.natCast_succ, Int.add_mul, Int.one_mul]; omega
      constructor
      · rintro ⟨j, hj, x, y⟩
        match j with
        | 0 => simp at x y; exact .inl ⟨x, y⟩
        | j + 1 => rw [e] at x y; exact .inr ⟨j, by omega, x, y⟩
      · rintro (⟨x, y⟩ | ⟨j, hj, x, y⟩)
        · exact ⟨0, by omega, by simpa using x, by simpa using y⟩
        · exact ⟨j + 1, by omega, by rw [e]; exact x, by rw [e]; exact y⟩
    rw [step, clashC, hw, ← ih]
    by_cases hc : c ≤ hi
    · rw [if_pos hc]
      by_cases hs : speaksF b c = true
      · rw [if_pos hs]; exact ⟨fun _ => .inl ⟨hc, (speaksF_iff hb c).1 hs⟩, fun _ => rfl⟩
      · rw [if_neg hs]
        exact ⟨.inr, fun h => h.resolve_left fun h => hs ((speaksF_iff hb c).2 h.2)⟩
    · rw [if_neg hc]
      refine ⟨fun h => (by cases h), fun h => ?_⟩
      rcases h with h | h
      · exact absurd h.1 hc
      · exfalso
        obtain ⟨j, _, x, _⟩ := ih.1 h
        have : 0 ≤ (j : Int) * s := Int.mul_nonneg (by omega) (by omega)
        omega
theorem meetC_iff {b : Rec} (hb : b.span) {hi s : Int} (h1 : 1 ≤ s) (h2 : s ≤ 64) : ∀ (k : Nat) (c : Int), 0 ≤ c → c + k * 64 ≤ 9000000 → meetC b hi s k c = clashC b hi s k c
  | 0, c, _, _ => rfl
  | k + 1, c, h0, h3 => by
    have hw : IntKind.i64.wrap (c + s) = c + s := i64_id (by omega) (by omega)
    have ih := meetC_iff hb (hi := hi) h1 h2 k (c + s) (by omega) (by omega)
    have hs : speaksR b c = speaksF b c := by rw [Bool.eq_iff_iff, speaksR_iff hb, speaksF_iff hb]
    rw [meetC, clashC, hw, ih, hs]
    by_cases hc : c ≤ hi
    · rw [if_pos hc, if_neg (by omega)]
    · rw [if_neg hc, if_pos (by omega)]
theorem mx_eq (x y : Int) : (if x < y then y else x) = max x y := by split <;> omega
theorem mn_eq (x y : Int) : (if y < x then y else x) = min x y := by split <;> omega
theorem clashF_iff {a b : Rec} (ha : a.span) (hb : b.span) (hf : famK a.kind = famK b.kind) : clashF a b = true ↔ Meets a b := by
  have ha' := ha
  have hb' := hb
  obtain ⟨_, a15, a1, a2, a3, a4, a5⟩ := ha'
  obtain ⟨_, b15, b1, b2, b3, b4, b5⟩ := hb'
  have hs : stepR a = st a := by
    unfold stepR st at *
    split
    · rename_i hk; rw [if_pos hk] at a4; rw [if_neg (by omega)]
    · rfl
  unfold clashF
  rw [if_neg (by simpa using hf), if_neg a15, mn_eq, hs]
  have hc : ∃ q, clashS a b = a.lo + q * st a ∧ max a.lo b.lo ≤ a.lo + q * st a ∧ a.lo + q * st a < max a.lo b.lo + st a := by
    unfold clashS
    rw [mx_eq, hs]
    by_cases h : a.lo < max a.lo b.lo
    · rw [if_pos h]; exact first_spec a1 (by omega) (by omega) a4 a5
    · rw [if_neg h]; exact ⟨0, by omega, by omega, by omega⟩
  obtain ⟨q, e, h1, h2⟩ := hc
  rw [clashC_iff hb a4 a5 64 _ (by omega) (by omega), e]
  exact (meets_iff ha hb q rfl h1 h2).symm
theorem meetO_iff {a b : Rec} (ha : a.span) (hb : b.span) (h4 : a.kind = 4 ∨ b.kind ≠ 4) : meetO a b = true ↔ Meets a b := by
  have ha' := ha
  have hb' := hb
  obtain ⟨_, a15, a1, a2, a3, a4, a5⟩ := ha'
  obtain ⟨_, b15, b1, b2, b3, b4, b5⟩ := hb'
  unfold meetO
  rw [mn_eq, mx_eq]
  by_cases hk : a.kind = 4
  · by_cases hlt : min a.hi b.hi < max a.lo b.lo
    · rw [if_pos (.inr hlt)]
      simp only [decide_eq_true_eq]
      constructor
      · intro h; omega
      · rintro ⟨c, ⟨x, y, _⟩, z, w, _⟩; omega
    · rw [if_neg (fun h => h.elim (fun h => h hk) hlt)]
      have hs : a.n = st a := by unfold st; rw [if_pos hk]
      have hc : ∃ q, meetS a b = a.lo + q * st a ∧ max a.lo b.lo ≤ a.lo + q * st a ∧ a.lo + q * st a < max a.lo b.lo + st a := by
        unfold meetS
        rw [mx_eq, hs]
        exact first_spec a1 (by omega) (by omega) a4 a5
      obtain ⟨q, e, h1, h2⟩ := hc
      rw [hs, meetC_iff hb a4 a5 64 _ (by omega) (by omega), clashC_iff hb a4 a5 64 _ (by omega) (by omega), e]
      exact (meets_iff ha hb q rfl h1 h2).symm
  · have hkb := h4.resolve_left hk
    rw [if_pos (.inl hk)]
    have sa : st a = 1 := by unfold st; rw [if_neg hk]
    have sb : st b = 1 := by unfold st; rw [if_neg hkb]
    simp only [decide_eq_true_eq]
    constructor
    · intro h
      exact ⟨max a.lo b.lo, ⟨by omega, by omega, by rw [sa]; exact Int.one_dvd _⟩, by omega, by omega, by rw [sb]; exact Int.one_dvd _⟩
    · rintro ⟨c, ⟨x, y, _⟩, z, w, _⟩; omega
theorem meetR_iff {a b : Rec} (ha : a.span) (hb : b.span) : meetR a b = true ↔ Meets a b := by
  unfold meetR
  by_cases hk : a.kind = 4
  · rw [if_pos hk]; exact meetO_iff ha hb (.inl hk)
  · rw [if_neg hk, meetO_iff hb ha (.inr hk)]; exact ⟨Meets.symm, Meets.symm⟩
end Go.Proofs.Ytcpdnpaedkcebaa.V
namespace Go.Proofs.Ytcpdnpaedkcebaa.V
open Go Go.RowKit
set_option linter.unusedVariables false
set_option linter.unusedSimpArgs false
set_option maxRecDepth 100000
def isI (k : Value) : Prop := ∃ n, k = .int .i64 n
structure Fams (C : Ctx) (ι : Nat → Loc) (S : Nat → Prop) (H : LH) (w : World) (l : List Rec) (m : Nat) (x : Option Int) (g : Value → Value) (L : Int → Loc) : Prop where
  mp : MapAt w m isI (.slice none 0 0) g
  hm : Hid ι S H w m
  hC : C.w0.heap.size ≤ m
  row : ∀ f, x ≠ some f → RowR (L f) S w 8 (recs (fam l f))
  sl : ∀ f, SliceAt (L f) 8 0 (fam l f).length (g (.int .i64 f))
  hid : ∀ f, x ≠ some f → (L f).isnil = false → Hid ι S H w (L f).block ∧ C.w0.heap.size ≤ (L f).block ∧ (L f).block ≠ m
  inj : ∀ f f', (L f).isnil = false → (L f').isnil = false → (L f).block = (L f').block → f = f'
variable {C : Ctx} {ι ι' : Nat → Loc} {S S' : Nat → Prop} {σ σ' : Slots} {H H' : LH} {a a' : Act} {w w' : World} {l : List Rec} {m : Nat} {x : Option Int} {g : Value → Value} {L : Int → Loc}
theorem Fams.step (h : Fams C ι S H w l m x g L) {D : Ctx} (hr : HR ι S H w) (h' : R (D.now w ι S H) ι' S' σ' H' a' w') : Fams C ι' S' H' w' l m x g L := by
  have hb : ∀ b, Hid ι S H w b → Hid ι' S' H' w' b ∧ w'.heap[b]? = w.heap[b]? := fun b hb => hb.step h'
  refine ⟨h.mp.same (hb m h.hm).2, (hb m h.hm).1, h.hC, fun f hf => (h.row f hf).mono (fun b o u hs hu => ⟨h'.sub b hs, ?_⟩) (fun hn => (hb _ (h.hid f hf hn).1).2), h.sl, fun f hf hn => ⟨(hb _ (h.hid f hf hn).1).1, (h.hid f hf hn).2⟩, h.inj⟩
  rw [cell_block (w := w) (h'.fr.block b (hr.slt b hs) (fun ⟨id, ho, e⟩ => hr.disj id ho (e ▸ hs)))]
  exact hu
theorem Hid.nil {b : Nat} (h : Hid ι S H w b) : Hid ι' S [] w b := ⟨h.1, h.2.1, fun ⟨id, ho, _⟩ => by unfold Owned at ho; simp [LH.get] at ho⟩
theorem Fams.nil (h : Fams C ι S H w l m x g L) : Fams C ι S [] w l m x g L :=
  ⟨h.mp, h.hm.nil, h.hC, h.row, h.sl, fun f hf hn => ⟨(h.hid f hf hn).1.nil, (h.hid f hf hn).2⟩, h.inj⟩
theorem Fams.adopt (h : Fams C ι S H w l m none g L) {id : Nat} (f : Int) (hn : LH.get H id = none) :
    Fams C (updL ι id (L f)) S (LH.set H id (.row 8 (recs (fam l f)))) w l m (some f) g L := by
  have hb : ∀ b, Hid ι S H w b → ((L f).isnil = false → (L f).block ≠ b) → Hid (updL ι id (L f)) S (LH.set H id (.row 8 (recs (fam l f)))) w b := fun b hb hne =>
    ⟨hb.1, hb.2.1, fun ho => (OwnB.adopt ho).elim hb.2.2 fun ⟨e1, e2⟩ => hne e1 e2⟩
  refine ⟨h.mp, hb m h.hm fun hn => (h.hid f (by simp) hn).2.2, h.hC, fun f' hf => h.row f' (by simp), h.sl, fun f' hf hn' => ⟨hb _ (h.hid f' (by simp) hn').1 fun hn => fun e => hf (by rw [h.inj f f' hn hn' e]), (h.hid f' (by simp) hn').2⟩, h.inj⟩
theorem fam_snoc (l : List Rec) (r : Rec) (f : Int) : fam (l ++ [r]) f = if famK r.kind = f then fam l f ++ [r] else fam l f := by
  unfold fam
  rw [List.filter_append]
  by_cases h : famK r.kind = f
  · rw [if_pos h]; simp [h]
  · rw [if_neg h]; simp [h]
theorem avr_raw {v : Value} {u : Value} (hv : AVR ι H S w (.c (.raw v)) u) : u = v := by
  cases avr_c hv; rfl
theorem slot_raw {t : Nat} {v : Value} (h : R C ι S σ H a w) (hs : Slots.get σ t = .c (.raw v)) : a.tmps.getD t Go.undef = v := by
  have := h.sl t
  rw [hs] at this
  exact avr_raw this
theorem slot_i64 {t : Nat} {n : Int} (h : R C ι S σ H a w) (hs : Slots.get σ t = .c (.int .i64 n)) : a.tmps.getD t Go.undef = .int .i64 n := by
  have := h.sl t
  rw [hs] at this
  exact avr_int this
def q15a : List IOp := [⟨some 41, 0, none, .mv (.t 7)⟩, ⟨some 42, 0, none, .mv (.t 10)⟩]
def q15b : List IOp := [⟨some 44, 0, none, .len false (.t 43)⟩, ⟨some 45, 0, none, .mv (.c (.int .i64 0))⟩]
def q21a : List IOp := [⟨some 90, 0, none, .mv (.t 7)⟩, ⟨some 91, 0, none, .mv (.t 10)⟩, ⟨some 92, 0, none, .mv (.t 7)⟩, ⟨some 93, 0, none, .mv (.t 10)⟩]
def q21b : List IOp := [⟨some 95, 0, none, .ld (.t 9) (some 8)⟩, ⟨some 96, 40, none, .bsl 8 [.t 95]⟩, ⟨some 97, 41, none, .app (.t 94) (.t 96) 8 96 false⟩]
def s30a (l : List Rec) (v : Value) (i : Nat) (f : Int) : Slots := (10, .c (.int .i64 f)) :: (8, .c (.int .i64 i)) :: (9, .ref 768 0) :: s30 l v i
theorem wa15a (l : List Rec) (v : Value) (i : Nat) (f : Int) (r : Rec) (Q : Ex → Slots → LH → Prop) (hQ : ∀ σ, Has σ ((42, .c (.int .i64 f)) :: (41, .c (.raw v)) :: s30a l v i f) → Q .norm σ [(768, robj r)]) : rnC Try.prog (.reg q15a) Q (s30a l v i f) [(768, robj r)] := by
  unfold q15a s30a s30 robj
  simp only [go_sem, ↓reduceIte, Nat.reduceEqDiff, Nat.reduceMul, Nat.reduceAdd, Nat.reduceDiv, Nat.reduceSub, Nat.reduceLT, Nat.reduceLeDiff, Int.reduceLE, Int.reduceLT, Int.reduceToNat, Int.reduceEq]
  exact hQ _ ⟨rfl, rfl, rfl, rfl, rfl, rfl, rfl, rfl, rfl, trivial⟩
theorem wa15b (l : List Rec) (v : Value) (i : Nat) (f : Int) (r : Rec) (os : List Rec) (Q : Ex → Slots → LH → Prop) (hQ : ∀ σ, Has σ ((45, .c (.int .i64 0)) :: (44, .c (.int .i64 os.length)) :: s30b l v i f os) → Q .norm σ (h30b r os)) : rnC Try.prog (.reg q15b) Q (s30b l v i f os) (h30b r os) := by
  unfold q15b s30b s30 h30b robj
  simp only [go_sem, ↓reduceIte, Nat.reduceEqDiff, Nat.reduceMul, Nat.reduceAdd, Nat.reduceDiv, Nat.reduceSub, Nat.reduceLT, Nat.reduceLeDiff, Int.reduceLE, Int.reduceLT, Int.reduceToNat, Int.reduceEq]
  exact hQ _ ⟨rfl, rfl, rfl, rfl, rfl, rfl, rfl, rfl, rfl, rfl, trivial⟩
theorem wa21a (l : List Rec) (v : Value) (i : Nat) (f : Int) (r : Rec) (os : List Rec) (Q : Ex → Slots → LH → Prop) (hQ : ∀ σ, Has σ ((93, .c (.int .i64 f)) :: (92, .c (.raw v)) :: (91, .c (.int .i64 f)) :: (90, .c (.raw v)) :: s30b l v i f os) → Q .norm σ [(3000640, .row 8 (recs os)), (768, robj r)]) :
    rnC Try.prog (.reg q21a) Q (s30b l v i f os) [(3000640, .row 8 (recs os)), (768, robj r)] := by
  unfold q21a s30b s30 robj
  simp only [go_sem, ↓reduceIte, Nat.reduceEqDiff, Nat.reduceMul, Nat.reduceAdd, Nat.reduceDiv, Nat.reduceSub, Nat.reduceLT, Nat.reduceLeDiff, Int.reduceLE, Int.reduceLT, Int.reduceToNat, Int.reduceEq]
  exact hQ _ ⟨rfl, rfl, rfl, rfl, rfl, rfl, rfl, rfl, rfl, rfl, rfl, rfl, trivial⟩
theorem wa21b (l : List Rec) (v : Value) (i : Nat) (f : Int) (r : Rec) (os : List Rec) (hos : os.length ≤ 4096) (Q : Ex → Slots → LH → Prop) (hQ : ∀ σ H, Has σ ((97, .osl 2624 0 (os.length + 1)) :: (91, .c (.int .i64 f)) :: (90, .c (.raw v)) :: s30 l v i) → LH.get H 2624 = some (.row 8 (recs (os ++ [r]))) → (∀ id ob, argBase ≤ id → LH.get H id = some ob → ¬ ob.own) → Q .norm σ H) :
    rnC Try.prog (.reg q21b) Q ((94, .osl 3000640 0 os.length) :: (91, .c (.int .i64 f)) :: (90, .c (.raw v)) :: (9, .ref 768 0) :: s30 l v i) [(3000640, .row 8 (recs os)), (768, robj r)] := by
  unfold q21b s30 robj
  simp only [go_sem, ↓reduceIte, Nat.reduceEqDiff, Nat.reduceMul, Nat.reduceAdd, Nat.reduceDiv, Nat.reduceSub, Nat.reduceLT, Nat.reduceLeDiff, Int.reduceLE, Int.reduceLT, Int.reduceToNat, Int.reduceEq]
  have ht : List.take os.length (recs os) = recs os := by rw [← recs_len os, List.take_length]
  refine ⟨by omega, hQ _ _ ⟨rfl, rfl, rfl, rfl, rfl, rfl, rfl, trivial⟩ ?_ fun id ob hge hg ho => ?_⟩
  · show some (LObj.row 8 (List.take os.length (recs os) ++ [r.cv])) = _
    rw [ht]; simp [recs]
  · unfold argBase at hge
    simp only [LH.get] at hg
    rw [if_neg (show ¬768 = id by omega), if_neg (show ¬2560 = id by omega), if_neg (show ¬2624 = id by omega)] at hg
    split at hg
    · injection hg with hg; subst hg; exact ho
    · cases hg
theorem zero22 (w : World) : (zeroValue 22).run Try.prog w = .ok (.slice none 0 0) w := by kernel_rfl
theorem map87 : Try.prog.underlying 87 = some (.map 3 22) := by kernel_rfl
theorem keys87 : Keys Try.prog 3 isI := keys_int (by kernel_rfl)
theorem no_ids {r : Rec} : ∀ id ob, argBase ≤ id → LH.get [(768, robj r)] id = some ob → ¬ ob.own := fun id ob hge hg => by
  unfold argBase at hge
  simp only [LH.get, if_neg (show ¬768 = id by omega)] at hg
  cases hg
theorem no_ids0 : ∀ id ob, argBase ≤ id → LH.get [] id = some ob → ¬ ob.own := fun id ob hge hg => by cases hg
theorem reg15 {ops : Array Oper} {l1 l2 : List Oper} {o : Oper} {Q : Exit → Act → World → Prop} {f : Int} {r : Rec} {i : Nat} {l' : List Rec}
    (hops : ops.toList = l1 ++ (o :: l2)) (c1 : chkOps Try.prog C.n ops l1 q15a = true) (c2 : chkOps Try.prog C.n ops l2 q15b = true) (ho : o.op = .lookup 87 (.tmp 41) (.tmp 42) false) (hd : o.dst = some 43) (hg : o.guard = none) (hn : 43 < C.n)
    (hR : R C ι S (s30a l (.map (some m)) i f) [(768, robj r)] a w) (hF : Fams C ι S [(768, robj r)] w l' m none g L)
    (hK : ∀ w1 ι2 S1 ι' S' a' w', ι2 3000640 = L f → HR ι2 S1 (h30b r (fam l' f)) w1 → Fams C ι2 S1 (h30b r (fam l' f)) w1 l' m (some f) g L → Base C ι2 S1 (h30b r (fam l' f)) w1 →
      R (C.now w1 ι2 S1 (h30b r (fam l' f))) ι' S' ((45, .c (.int .i64 0)) :: (44, .c (.int .i64 (fam l' f).length)) :: s30b l (.map (some m)) i f (fam l' f)) (h30b r (fam l' f)) a' w' → Q .normal a' w') :
    (Code.region 15 ops false).wp Try.prog Q a w := by
  refine wp_region_list ?_
  rw [hops]
  refine opsP_sound (C := C.now w ι S [(768, robj r)]) l1 q15a c1 hR.rebase (rn_ok (.reg q15a) (fun _ _ _ h => h) (wa15a l _ i f r (fun e σ H => e = .norm ∧ Has σ ((42, .c (.int .i64 f)) :: (41, .c (.raw (.map (some m)))) :: s30a l (.map (some m)) i f) ∧ H = [(768, robj r)]) fun σ h => ⟨rfl, h, rfl⟩)) fun ι3 S3 σ3 H3 a3 w3 hq h3 => ?_
  obtain ⟨_, hs, rfl⟩ := hq
  have F3 := hF.step hR.hr h3
  have h3 := R.unbase hR.base h3 no_ids
  refine op_val hg (ex_look ho (by rw [slot_raw h3 hs.2.1, slot_i64 h3 hs.1]; exact F3.mp.look map87 keys87 (zero22 w3) ⟨f, rfl⟩)) ?_
  rw [hd]
  have hnone : LH.get [(768, robj r)] 3000640 = none := rfl
  have h4 := h3.adopt (id := 3000640) (e := 8) (xs := recs (fam l' f)) (L := L f) hnone (F3.row f (by simp)) (fun hn => (F3.hid f (by simp) hn).1)
  have F4 := F3.adopt f hnone
  have b4 : Base C (updL ι3 3000640 (L f)) S3 (h30b r (fam l' f)) w3 := ⟨h3.fr, h3.sub, h3.sup, fun b hb => (OwnB.adopt hb).elim (fun hb => h3.base.own b hb) fun ⟨e1, e2⟩ => .inr (e2 ▸ (F3.hid f (by simp) e1).2.1)⟩
  have h5 := h4.put (d := some 43) (av := .osl 3000640 0 (fam l' f).length) (v := g (.int .i64 f)) (.osl _ _ _ _ (by
    show OslOK (updL ι3 3000640 (L f)) (h30b r (fam l' f)) 3000640 0 _ _
    unfold OslOK
    show _ ∧ _
    rw [updL_same]
    exact ⟨by rw [recs_len]; omega, F3.sl f⟩)) (fun k hk => by injection hk with hk; subst hk; exact hn)
  have h6 := R.weak (l := s30b l (.map (some m)) i f (fam l' f)) h5 ⟨rfl, hs.2.2.1, hs.2.2.2.1, hs.2.2.2.2.1, hs.2.2.2.2.2.1, hs.2.2.2.2.2.2.1, hs.2.2.2.2.2.2.2.1, hs.2.2.2.2.2.2.2.2.1, trivial⟩
  refine ops_sound (C := C.now w3 (updL ι3 3000640 (L f)) S3 (h30b r (fam l' f))) l2 q15b c2 h6 (rn_ok (.reg q15b) (fun _ _ _ h => h) (wa15b l _ i f r (fam l' f) (fun e σ H => e = .norm ∧ Has σ ((45, .c (.int .i64 0)) :: (44, .c (.int .i64 (fam l' f).length)) :: s30b l (.map (some m)) i f (fam l' f)) ∧ H = h30b r (fam l' f)) fun σ h => ⟨rfl, h, rfl⟩)) fun ι7 S7 σ7 H7 a7 w7 hq h7 => ?_
  obtain ⟨_, hs7, rfl⟩ := hq
  exact hK w3 _ S3 ι7 S7 a7 w7 (updL_same _ _ _) h4.hr F4 b4 (h7.weak hs7)
theorem reg21 {ops : Array Oper} {l1 l2 : List Oper} {o o2 : Oper} {Q : Exit → Act → World → Prop} {r : Rec} {i : Nat} {l' : List Rec} {w1 : World} {ι2 : Nat → Loc} {S1 : Nat → Prop} {f : Int} (hO : ∀ b, ¬ C.O b) (hf : f = famK r.kind)
    (hops : ops.toList = l1 ++ (o :: (l2 ++ [o2]))) (c1 : chkOps Try.prog C.n ops l1 q21a = true) (c2 : chkOps Try.prog C.n ops l2 q21b = true) (ho : o.op = .lookup 87 (.tmp 92) (.tmp 93) false) (hd : o.dst = some 94) (hg : o.guard = none) (hn : 94 < C.n)
    (ho2 : o2.op = .mapUpdate 87 (.tmp 90) (.tmp 91) (.tmp 97)) (hd2 : o2.dst = none) (hg2 : o2.guard = none) (hlen : (fam l' f).length ≤ 4096)
    (e2 : ι2 3000640 = L f) (hr1 : HR ι2 S1 (h30b r (fam l' f)) w1) (F1 : Fams C ι2 S1 (h30b r (fam l' f)) w1 l' m (some f) g L) (b1 : Base C ι2 S1 (h30b r (fam l' f)) w1)
    (hR : R (C.now w1 ι2 S1 (h30b r (fam l' f))) ι S (s30b l (.map (some m)) i f (fam l' f)) [(3000640, .row 8 (recs (fam l' f))), (768, robj r)] a w)
    (hK : ∀ ι' S' a' w' g' L', R C ι' S' (s30 l (.map (some m)) i) [] a' w' → Fams C ι' S' [] w' (l' ++ [r]) m none g' L' → Q .normal a' w') :
    (Code.region 21 ops false).wp Try.prog Q a w := by
  refine wp_region_list ?_
  rw [hops]
  refine opsP_sound (C := C.now w1 ι2 S1 (h30b r (fam l' f))) l1 q21a c1 hR (rn_ok (.reg q21a) (fun _ _ _ h => h) (wa21a l _ i f r (fam l' f) (fun e σ H => e = .norm ∧ Has σ ((93, .c (.int .i64 f)) :: (92, .c (.raw (.map (some m)))) :: (91, .c (.int .i64 f)) :: (90, .c (.raw (.map (some m)))) :: s30b l (.map (some m)) i f (fam l' f)) ∧ H = [(3000640, .row 8 (recs (fam l' f))), (768, robj r)]) fun σ h => ⟨rfl, h, rfl⟩)) fun ι3 S3 σ3 H3 a3 w3 hq h3 => ?_
  obtain ⟨_, hs, rfl⟩ := hq
  have F3 := F1.step hr1 h3
  have hs93 := hs.1
  have hs92 := hs.2.1
  refine op_val hg (ex_look ho (by rw [slot_raw h3 hs92, slot_i64 h3 hs93]; exact F3.mp.look map87 keys87 (zero22 w3) ⟨f, rfl⟩)) ?_
  rw [hd]
  have hg3 : LH.get [(3000640, LObj.row 8 (recs (fam l' f))), (768, robj r)] 3000640 = some (.row 8 (recs (fam l' f))) := rfl
  have e3 : ι3 3000640 = L f := (h3.loc 3000640 _ hg3 trivial (by decide)).trans e2
  have h5 := h3.put (d := some 94) (av := .osl 3000640 0 (fam l' f).length) (v := g (.int .i64 f)) (.osl _ _ _ _ (by
    unfold OslOK
    rw [hg3]
    show _ ∧ _
    rw [e3]
    exact ⟨by rw [recs_len]; omega, F3.sl f⟩)) (fun k hk => by injection hk with hk; subst hk; exact hn)
  obtain ⟨_, _, s91, s90, s43, s10, s8, s9, s7, s31, s32, s33, _⟩ := hs
  have h6 := R.weak (l := (94, .osl 3000640 0 (fam l' f).length) :: (91, .c (.int .i64 f)) :: (90, .c (.raw (.map (some m)))) :: (9, .ref 768 0) :: s30 l (.map (some m)) i) h5 ⟨rfl, s91, s90, s9, s7, s31, s32, s33, trivial⟩
  refine opsP_sound (C := C.now w1 ι2 S1 (h30b r (fam l' f))) l2 q21b c2 h6 (rn_ok (.reg q21b) (fun _ _ _ h => h) (wa21b l _ i f r (fam l' f) hlen (fun e σ H => e = .norm ∧ Has σ ((97, .osl 2624 0 ((fam l' f).length + 1)) :: (91, .c (.int .i64 f)) :: (90, .c (.raw (.map (some m)))) :: s30 l (.map (some m)) i) ∧ LH.get H 2624 = some (.row 8 (recs (fam l' f ++ [r]))) ∧ (∀ id ob, argBase ≤ id → LH.get H id = some ob → ¬ ob.own)) fun σ H h h' h'' => ⟨rfl, h, h', h''⟩)) fun ι4 S4 σ4 H4 a4 w4 hq h4 => ?_
  obtain ⟨_, hs4, hg4, hid4⟩ := hq
  have F4 := F1.step hr1 h4
  have h4 := R.unbase b1 h4 hid4
  obtain ⟨s97, s91, s90, hs30⟩ := hs4
  have a97 := h4.sl 97
  rw [s97] at a97
  have sl97 := (oslOK_row (avr_osl a97) (.inl hg4)).2
  generalize hv97 : a4.tmps.getD 97 Go.undef = v97 at a97 sl97
  obtain ⟨X, hX1, hX2⟩ := F4.mp.put map87 keys87 (k := .int .i64 f) ⟨f, rfl⟩ v97
  refine op_skip hg2 hd2 (ex_put ho2 (by
    rw [slot_raw h4 s90, slot_i64 h4 s91]
    show (Instr.mapUpdate 87 _ _ (a4.tmps.getD 97 Go.undef)).run _ _ = _
    rw [hv97]; exact hX1)) ?_
  have h7 := h4.hid F4.hm F4.hC X
  have h8 := R.drop (l := [(7, .raw (.map (some m))), (31, .sl 8 (recs l)), (32, .int .i64 l.length), (33, .int .i64 i)]) h7 hs30
  unfold wpList
  have ow : (ι4 2624).isnil = false → Owned ι4 H4 2624 := fun hn => by unfold Owned; rw [hg4]; exact hn
  refine hK ι4 S4 a4 _ _ (fun f' => if f' = f then ι4 2624 else L f') h8 ⟨hX2, (F4.hm.hid X).nil, F4.hC, fun f' _ => ?_, fun f' => ?_, fun f' _ hn => ?_, fun f1 f2 hn1 hn2 he => ?_⟩
  · rw [fam_snoc]
    have kb : ∀ (b : Nat), b ≠ m → (w4.heap.setIfInBounds m X)[b]? = w4.heap[b]? := fun b hb => by rw [Array.getElem?_setIfInBounds_ne (Ne.symm hb)]
    have kS : ∀ (b o : Nat) (x : Value), S4 b → w4.cell? ⟨b, o, none⟩ = some x → S4 b ∧ ({ w4 with heap := w4.heap.setIfInBounds m X } : World).cell? ⟨b, o, none⟩ = some x := fun b o x hs hx =>
      ⟨hs, by rw [cell_block (w := w4) (show (w4.heap.setIfInBounds m X)[b]? = w4.heap[b]? from kb b (fun e => F4.hm.2.1 (e ▸ hs)))]; exact hx⟩
    by_cases hff : f' = f
    · simp only [hff, if_true, ← hf]
      exact (h4.hr.row _ _ _ hg4).mono kS fun hn => kb _ fun e => F4.hm.2.2 ⟨2624, ow hn, e⟩
    · rw [if_neg hff, if_neg (by rw [← hf]; exact Ne.symm hff)]
      exact (F4.row f' (by simpa using Ne.symm hff)).mono kS fun hn => kb _ (F4.hid f' (by simpa using Ne.symm hff) hn).2.2
  · rw [fam_snoc]
    by_cases hff : f' = f
    · simp only [hff, if_true, ← hf]
      rw [List.length_append]
      exact sl97
    · rw [if_neg hff, if_neg (by rw [← hf]; exact Ne.symm hff)]
      have : ¬ (Value.int .i64 f' = Value.int .i64 f) := fun h => by injection h with _ h; exact hff h
      rw [if_neg this]
      exact F4.sl f'
  · by_cases hff : f' = f
    · simp only [hff, if_true] at hn ⊢
      refine ⟨⟨?_, ?_, ?_⟩, ?_, ?_⟩
      · simpa using h4.hr.lt 2624 (ow hn)
      · exact h4.hr.disj 2624 (ow hn)
      · intro ⟨id, ho, _⟩; unfold Owned at ho; simp [LH.get] at ho
      · exact (h4.own 2624 (ow hn)).resolve_left (hO _)
      · exact fun e => F4.hm.2.2 ⟨2624, ow hn, e⟩
    · simp only [if_neg hff] at hn ⊢
      have := F4.hid f' (by simpa using Ne.symm hff) hn
      exact ⟨(this.1.hid X).nil, this.2⟩
  · by_cases h1 : f1 = f <;> by_cases h2 : f2 = f
    · rw [h1, h2]
    · simp only [h1, if_true, if_neg h2] at hn1 hn2 he
      exact absurd ⟨2624, ow hn1, he⟩ (F4.hid f2 (by simpa using Ne.symm h2) hn2).1.2.2
    · simp only [h2, if_true, if_neg h1] at hn1 hn2 he
      exact absurd ⟨2624, ow hn2, he.symm⟩ (F4.hid f1 (by simpa using Ne.symm h1) hn1).1.2.2
    · simp only [if_neg h1, if_neg h2] at hn1 hn2 he
      exact F4.inj f1 f2 hn1 hn2 he
end Go.Proofs.Ytcpdnpaedkcebaa.V
namespace Go.Proofs.Ytcpdnpaedkcebaa.V
open Go Go.RowKit
set_option linter.unusedVariables false
set_option linter.unusedSimpArgs false
set_option maxRecDepth 100000
def rs30 : List (Nat × Option Nat × Mode) := [(2, none, .plain), (3, none, .plain)]
def x10 (f : Func) : Array Oper := opsOf (seqA (seqB (seqB (seqB (codeOf f)))))
def x15 (f : Func) : Array Oper := opsOf (seqA (seqA (seqB (seqB (blkC (seqA (seqB (seqB (loopC (blkC (seqB (seqA (seqB (seqB (seqB (seqB (codeOf f)))))))))))))))))
def x21 (f : Func) : Array Oper := opsOf (seqB (seqB (seqB (blkC (seqA (seqB (seqB (loopC (blkC (seqB (seqA (seqB (seqB (seqB (seqB (codeOf f))))))))))))))))
def at_ (x : Array Oper) (i : Nat) : Oper := x.toList.getD i default
theorem x10_l : (x10 Try.f30).toList = [at_ (x10 Try.f30) 0, at_ (x10 Try.f30) 1] := by kernel_rfl
theorem x10_0 : (at_ (x10 Try.f30) 0).op = .makeMap 87 none ∧ (at_ (x10 Try.f30) 0).dst = some 30 ∧ (at_ (x10 Try.f30) 0).guard = none := ⟨by kernel_rfl, by kernel_rfl, by kernel_rfl⟩
theorem x10_1 : (at_ (x10 Try.f30) 1).op = .assign (.tmp 30) ∧ (at_ (x10 Try.f30) 1).dst = some 7 ∧ (at_ (x10 Try.f30) 1).guard = none := ⟨by kernel_rfl, by kernel_rfl, by kernel_rfl⟩
theorem x15_l : (x15 Try.f30).toList = (x15 Try.f30).toList.take 2 ++ (at_ (x15 Try.f30) 2 :: (x15 Try.f30).toList.drop 3) := by kernel_rfl
theorem x15_a : chkOps Try.prog Try.f30.ntmps (x15 Try.f30) ((x15 Try.f30).toList.take 2) q15a = true := by decide +kernel
theorem x15_b : chkOps Try.prog Try.f30.ntmps (x15 Try.f30) ((x15 Try.f30).toList.drop 3) q15b = true := by decide +kernel
theorem x15_2 : (at_ (x15 Try.f30) 2).op = .lookup 87 (.tmp 41) (.tmp 42) false ∧ (at_ (x15 Try.f30) 2).dst = some 43 ∧ (at_ (x15 Try.f30) 2).guard = none := ⟨by kernel_rfl, by kernel_rfl, by kernel_rfl⟩
theorem x21_l : (x21 Try.f30).toList = (x21 Try.f30).toList.take 4 ++ (at_ (x21 Try.f30) 4 :: (((x21 Try.f30).toList.drop 5).take 3 ++ [at_ (x21 Try.f30) 8])) := by kernel_rfl
theorem x21_a : chkOps Try.prog Try.f30.ntmps (x21 Try.f30) ((x21 Try.f30).toList.take 4) q21a = true := by decide +kernel
theorem x21_b : chkOps Try.prog Try.f30.ntmps (x21 Try.f30) (((x21 Try.f30).toList.drop 5).take 3) q21b = true := by decide +kernel
theorem x21_4 : (at_ (x21 Try.f30) 4).op = .lookup 87 (.tmp 92) (.tmp 93) false ∧ (at_ (x21 Try.f30) 4).dst = some 94 ∧ (at_ (x21 Try.f30) 4).guard = none := ⟨by kernel_rfl, by kernel_rfl, by kernel_rfl⟩
theorem x21_8 : (at_ (x21 Try.f30) 8).op = .mapUpdate 87 (.tmp 90) (.tmp 91) (.tmp 97) ∧ (at_ (x21 Try.f30) 8).dst = none ∧ (at_ (x21 Try.f30) 8).guard = none := ⟨by kernel_rfl, by kernel_rfl, by kernel_rfl⟩
theorem n30 : Try.f30.ntmps = 99 := by kernel_rfl
section
variable {C : Ctx} {ι : Nat → Loc} {S : Nat → Prop} {σ : Slots} {H : LH} {a : Act} {w : World} {m : Nat}
theorem reg10 {l : List Rec} {Q : Exit → Act → World → Prop} (hn : C.n = Try.f30.ntmps) (hR : R C ι S [(0, .c (.sl 8 (recs l)))] [] a w)
    (hK : ∀ m a' w' g L, R C ι S [(0, .c (.sl 8 (recs l))), (7, .c (.raw (.map (some m))))] [] a' w' → Fams C ι S [] w' [] m none g L → Q .normal a' w') :
    (Code.region 10 (x10 Try.f30) false).wp Try.prog Q a w := by
  refine wp_region_list ?_
  rw [x10_l]
  obtain ⟨p1, p2, p3⟩ := x10_0
  obtain ⟨q1, q2, q3⟩ := x10_1
  refine op_val p3 (ex_map p1) ?_
  rw [p2]
  obtain ⟨h1, hh⟩ := hR.newhid (.map #[] 0)
  have h2 := h1.put (d := some 30) (av := .c (.raw (.map (some w.heap.size)))) (v := .map (some w.heap.size)) (.c _ _ (.raw _)) (fun k hk => by injection hk with hk; subst hk; rw [hn, n30]; decide)
  have hv := slot_raw h2 (t := 30) rfl
  refine op_val (v := (a.put (some 30) (.map (some w.heap.size))).tmps.getD 30 Go.undef) q3 (by
    unfold execOp
    simp only [q1]
    rfl) ?_
  rw [q2, hv]
  have h3 := h2.put (d := some 7) (av := .c (.raw (.map (some w.heap.size)))) (v := .map (some w.heap.size)) (.c _ _ (.raw _)) (fun k hk => by injection hk with hk; subst hk; rw [hn, n30]; decide)
  unfold wpList
  refine hK w.heap.size _ _ (fun _ => .slice none 0 0) (fun _ => ⟨0, 0, 0, true⟩) (h3.weak (l := [(0, .c (.sl 8 (recs l))), (7, .c (.raw (.map (some w.heap.size))))]) ⟨rfl, rfl, trivial⟩) ⟨MapAt.new w isI _, hh, hR.fr.size, fun f _ => ?_, fun f => ?_, fun f _ hn => (by cases hn), fun f f' hn => (by cases hn)⟩
  · unfold RowR; simp [fam, recs]
  · unfold SliceAt
    simp [fam]
end
theorem cw30 (l : List Rec) (hl : ∀ r ∈ l, r.ok) (hto : ∀ r ∈ l, r.to.length ≤ 35184372088832) : CW Try.prog 30 [.cv (.sl 8 (recs l))] ⟨[.cv (.int .i64 (checkP l).1), .cv (.int .i64 (checkP l).2)], []⟩ := by
  refine CW.hand (c := codeOf Try.f30) rs30 [] Try.func30 (by kernel_rfl) (by decide +kernel) (by decide +kernel) (by show 1 ≤ _; rw [n30]; decide) (by show 1 ≤ 8; decide) trivial (fun C ι S a w hn hO' hR => ?_)
  have hO : ∀ b, ¬ C.O b := fun b hb => by rw [hO'] at hb; obtain ⟨id, ho, _⟩ := hb; exact ho
  have fin : ∀ {e : Exit} {ι1 : Nat → Loc} {S1 : Nat → Prop} {σ1 : Slots} {H1 : LH} {a1 : Act} {w1 : World} {p : Int × Int}, (e = .normal ∨ e = .ret) → p = checkP l → R C ι1 S1 σ1 H1 a1 w1 → Slots.get σ1 2 = .c (.int .i64 p.1) → Slots.get σ1 3 = .c (.int .i64 p.2) →
      (e = .normal ∨ e = .ret) ∧ ∃ ι' S' σ' H', R C ι' S' σ' H' a1 w1 ∧ retW σ' H' rs30 [.cv (.sl 8 (recs l))] [] ⟨[.cv (.int .i64 (checkP l).1), .cv (.int .i64 (checkP l).2)], []⟩ := by
    intro e ι1 S1 σ1 H1 a1 w1 p he hp h h2 h3
    subst hp
    exact ⟨he, ι1, S1, σ1, H1, h, ret2 rfl h2 h3⟩
  have hR : R C ι S [(0, .c (.sl 8 (recs l)))] [] a w := hR
  generalize hQ : (fun (e : Exit) (a1 : Act) (w1 : World) => (e = .normal ∨ e = .ret) ∧ ∃ ι' S' σ' H', R C ι' S' σ' H' a1 w1 ∧ retW σ' H' rs30 [.cv (.sl 8 (recs l))] [] ⟨[.cv (.int .i64 (checkP l).1), .cv (.int .i64 (checkP l).2)], []⟩) = Q
  have fin : ∀ {ι1 : Nat → Loc} {S1 : Nat → Prop} {σ1 : Slots} {H1 : LH} {a1 : Act} {w1 : World} {p : Int × Int}, p = checkP l → R C ι1 S1 σ1 H1 a1 w1 → Slots.get σ1 2 = .c (.int .i64 p.1) → Slots.get σ1 3 = .c (.int .i64 p.2) → Q .ret a1 w1 := by
    subst hQ; exact fun hp h h2 h3 => fin (.inr rfl) hp h h2 h3
  clear hQ
  rw [split30]
  refine wp_seq (code_sound (C := C) p0 _ (by rw [hn]; exact chk_p0) hR (rn_ok _ (fun _ _ _ h => h) (wa30_0 l (fun e σ H => e = .norm ∧ Has σ [(0, .c (.sl 8 (recs l)))] ∧ H = []) fun σ h => ⟨rfl, h, rfl⟩)) fun e ι1 S1 σ1 H1 a1 w1 hq h1 => ?_)
  obtain ⟨rfl, hs1, rfl⟩ := hq
  have h1 := R.weak h1 hs1
  refine wp_seq (code_sound (C := C) p1 _ (by rw [hn]; exact chk_p1) h1 (rn_ok _ (fun _ _ _ h => h) (wa30_1 l (fun e σ H => (e = .ret ∧ 4096 < l.length ∧ Has σ [(2, .c (.int .i64 0)), (3, .c (.int .i64 3))]) ∨ (e = .norm ∧ ¬ 4096 < l.length ∧ Has σ [(0, .c (.sl 8 (recs l)))] ∧ H = [])) (fun h4 σ H h => .inl ⟨rfl, h4, h⟩) fun h4 σ h => .inr ⟨rfl, h4, h, rfl⟩)) fun e ι2 S2 σ2 H2 a2 w2 hq h2 => ?_)
  rcases hq with ⟨rfl, h4, hs2⟩ | ⟨rfl, h4, hs2, rfl⟩
  · exact fin (p := (0, 3)) (by unfold checkP; rw [if_pos h4]) h2 hs2.1 hs2.2.1
  have h2 := R.weak h2 hs2
  refine wp_seq (code_sound (C := C) p2 _ (by rw [hn]; exact chk_p2) h2 (rn_ok _ (fun _ _ _ h => h) (wa30_2 l hto (by omega) (fun e σ H => (e = .ret ∧ ∃ i e, rightsP l 0 = some (i, e) ∧ Has σ [(2, .c (.int .i64 i)), (3, .c (.int .i64 e))]) ∨ (e = .norm ∧ rightsP l 0 = none ∧ Has σ [(0, .c (.sl 8 (recs l)))] ∧ H = [])) (fun i e h4 σ H h => .inl ⟨rfl, i, e, h4, h⟩) fun h4 σ h => .inr ⟨rfl, h4, h, rfl⟩)) fun e ι3 S3 σ3 H3 a3 w3 hq h3 => ?_)
  rcases hq with ⟨rfl, i, er, h5, hs3⟩ | ⟨rfl, h5, hs3, rfl⟩
  · exact fin (p := (i, er)) (by unfold checkP; rw [if_neg h4, h5]) h3 hs3.1 hs3.2.1
  have h3 := R.weak h3 hs3
  have hright := rightsP_none l 0 h5
  have ec : checkP l = match twiceP [] l 0 with | some i => (i, 62) | none => (0, 0) := by unfold checkP; rw [if_neg h4, h5] <;> rfl
  refine wp_seq (reg10 hn h3 fun m a4 w4 g L h6 F6 => ?_)
  refine wp_seq (wp_seq (code_sound (C := C.now w4 ι3 S3 []) p11 _ (by show chkC _ C.n _ _ = true; rw [hn]; exact chk_p11) h6.rebase (rn_ok _ (fun _ _ _ h => h) (wa30_11 l (.map (some m)) (fun e σ H => e = .norm ∧ Has σ (s30 l (.map (some m)) 0) ∧ H = []) fun σ h => ⟨rfl, h, rfl⟩)) fun e ι7 S7 σ7 H7 a7 w7 hq h7 => ?_))
  obtain ⟨rfl, hs7, rfl⟩ := hq
  have F7 := F6.step h6.hr h7
  have h7 := R.weak (R.unbase h6.base h7 no_ids0) hs7
  refine wp_block (LoopFrom.loop ?_)
  have main : ∀ (k i : Nat) (ι : Nat → Loc) (S : Nat → Prop) (a : Act) (w : World) (g : Value → Value) (L : Int → Loc), l.length - i < k → i ≤ l.length → twiceP (l.take i) (l.drop i) i = twiceP [] l 0 → R C ι S (s30 l (.map (some m)) i) [] a w → Fams C ι S [] w (l.take i) m none g L →
      LoopFrom Try.prog (loopC (blkC (seqB (seqA (seqB (seqB (seqB (seqB (codeOf Try.f30)))))))))
        (Exit.inBlock 2 (Exit.then (Code.wp Try.prog (seqB (seqB (seqB (seqB (seqB (codeOf Try.f30)))))) Q) Q)) a w := by
    intro k
    induction k with
    | zero => intro i _ _ _ _ _ _ h; omega
    | succ k ih =>
      intro i ι S a w g L hk hi htw hR hF
      refine LoopFrom.round ?_
      rw [split30b]
      refine wp_seq (code_sound (C := C.now w ι S []) p12 _ (by show chkC _ C.n _ _ = true; rw [hn]; exact chk_p12) hR.rebase (rn_ok _ (fun _ _ _ h => h) (wa30_12 l (.map (some m)) i (fun e σ H => e = .norm ∧ Has σ ((34, .c (.bool (decide ((i : Int) < l.length)))) :: s30 l (.map (some m)) i) ∧ H = []) fun σ h => ⟨rfl, h, rfl⟩)) fun e ι1 S1 σ1 H1 a1 w1 hq h1 => ?_)
      obtain ⟨rfl, hs1, rfl⟩ := hq
      have F1 := hF.step hR.hr h1
      have h1 := R.weak (R.unbase hR.base h1 no_ids0) hs1
      refine wp_seq (code_sound (C := C.now w1 ι1 S1 []) pc _ (by show chkC _ C.n _ _ = true; rw [hn]; exact chk_pc) h1.rebase (rn_ok _ (fun _ _ _ h => h) (wa30_c l (.map (some m)) i (fun e σ H => (e = .norm ∧ i < l.length ∧ Has σ (s30 l (.map (some m)) i) ∧ H = []) ∨ (e = .exit 2 ∧ l.length ≤ i ∧ Has σ (s30 l (.map (some m)) i) ∧ H = [])) (fun hi σ h => .inl ⟨rfl, hi, h, rfl⟩) fun hi σ h => .inr ⟨rfl, hi, h, rfl⟩)) fun e ι2 S2 σ2 H2 a2 w2 hq h2 => ?_)
      rcases hq with ⟨rfl, hlt, hs2, rfl⟩ | ⟨rfl, hge, hs2, rfl⟩
      rotate_left
      · have h2 := R.weak (l := []) (R.unbase h1.base h2 no_ids0) trivial
        show Code.wp Try.prog (seqB (seqB (seqB (seqB (seqB (codeOf Try.f30)))))) Q a2 w2
        refine code_sound (C := C) pe _ (by rw [hn]; exact chk_pe) h2 (rn_ok _ (fun _ _ _ h => h) (wa30_e (fun e σ H => e = .ret ∧ Has σ [(2, .c (.int .i64 0)), (3, .c (.int .i64 0))]) fun σ h => ⟨rfl, h⟩)) fun e ι3 S3 σ3 H3 a3 w3 hq h3 => ?_
        obtain ⟨rfl, hs3⟩ := hq
        refine fin (p := (0, 0)) ?_ h3 hs3.1 hs3.2.1
        have : i = l.length := by omega
        rw [this, List.drop_length, twiceP] at htw
        rw [ec, ← htw]
      have F2 := F1.step h1.hr h2
      have h2 := R.weak (R.unbase h1.base h2 no_ids0) hs2
      obtain ⟨r, er, hm, hd⟩ := recs_at hlt
      have etake : l.take (i + 1) = l.take i ++ [r] := by
        rw [List.take_add_one, List.getElem?_eq_getElem hlt]
        have h2 : l.drop i = l[i] :: l.drop (i + 1) := List.drop_eq_getElem_cons hlt
        rw [h2] at hd
        injection hd with hd1 hd2
        rw [hd1]; rfl
      rw [hd, twiceP] at htw
      have hsub : ∀ o ∈ fam (l.take i) (famK r.kind), o ∈ l := fun o ho => List.mem_of_mem_take (List.mem_filter.1 ho).1
      have hfl : (fam (l.take i) (famK r.kind)).length ≤ 4096 := by
        have h1 := List.length_filter_le (fun o : Rec => decide (famK o.kind = famK r.kind)) (l.take i)
        have h2 : (l.take i).length ≤ l.length := by rw [List.length_take]; omega
        unfold fam; omega
      refine wp_seq (wp_block (wp_seq (code_sound (C := C.now w2 ι2 S2 []) p13 _ (by show chkC _ C.n _ _ = true; rw [hn]; exact chk_p13) h2.rebase (rn_ok _ (fun _ _ _ h => h) (wa30_13 l (.map (some m)) i r hlt er (fun e σ H => e = .norm ∧ Has σ ((8, .c (.int .i64 i)) :: (9, .ref 768 0) :: s30 l (.map (some m)) i) ∧ H = [(768, robj r)]) fun σ h => ⟨rfl, h, rfl⟩)) fun e ι3 S3 σ3 H3 a3 w3 hq h3 => ?_)))
      obtain ⟨rfl, hs3, rfl⟩ := hq
      have F3 := F2.step h2.hr h3
      have h3 := R.weak (R.unbase h2.base h3 no_ids) hs3
      refine wp_seq (code_sound (C := C.now w3 ι3 S3 [(768, robj r)]) p14 _ (by show chkC _ C.n _ _ = true; rw [hn]; exact chk_p14) h3.rebase (rn_ok _ (fun _ _ _ h => h) (wa30_14 l (.map (some m)) i r (fun e σ H => e = .norm ∧ Has σ (s30a l (.map (some m)) i (famK r.kind)) ∧ H = [(768, robj r)]) fun σ h => ⟨rfl, h, rfl⟩)) fun e ι4 S4 σ4 H4 a4 w4 hq h4 => ?_)
      obtain ⟨rfl, hs4, rfl⟩ := hq
      have F4 := F3.step h3.hr h4
      have h4 := R.weak (R.unbase h3.base h4 no_ids) hs4
      refine wp_seq (wp_seq (reg15 x15_l (by rw [hn]; exact x15_a) (by rw [hn]; exact x15_b) x15_2.1 x15_2.2.1 x15_2.2.2 (by rw [hn, n30]; decide) h4 F4 fun w5 ι5 S5 ι6 S6 a6 w6 e5 hr5 F5 b5 h6 => ?_))
      refine code_sound (C := C.now w5 ι5 S5 (h30b r (fam (l.take i) (famK r.kind)))) p4 _ (by show chkC _ C.n _ _ = true; rw [hn]; exact chk_p4) h6 (rn_ok _ (fun _ _ _ h => h) (wa30_4 l (.map (some m)) i r (fam (l.take i) (famK r.kind)) hfl (hl r hm) (hright r hm) (fun o ho => ⟨hl o (hsub o ho), hright o (hsub o ho)⟩)
        (fun e σ H => (e = .ret ∧ (fam (l.take i) (famK r.kind)).any (fun o => clashP (famK r.kind) o r) = true ∧ Has σ [(2, .c (.int .i64 i)), (3, .c (.int .i64 62))]) ∨ (e = .norm ∧ (fam (l.take i) (famK r.kind)).any (fun o => clashP (famK r.kind) o r) = false ∧ Has σ (s30b l (.map (some m)) i (famK r.kind) (fam (l.take i) (famK r.kind))) ∧ H = [(3000640, .row 8 (recs (fam (l.take i) (famK r.kind)))), (768, robj r)]))
        (fun ha σ H h => .inl ⟨rfl, ha, h⟩) fun ha σ h => .inr ⟨rfl, ha, h, rfl⟩)) fun e ι7 S7 σ7 H7 a7 w7 hq h7 => ?_
      rcases hq with ⟨rfl, ha, hs7⟩ | ⟨rfl, ha, hs7, rfl⟩
      · have h7 := R.drop (l := [(2, .int .i64 i), (3, .int .i64 62)]) h7 hs7
        have h7 := R.unbase b5 h7 no_ids0
        show Q .ret a7 w7
        refine fin (p := (i, 62)) ?_ h7 rfl rfl
        rw [if_pos ha] at htw
        rw [ec, ← htw]
      rw [if_neg (by rw [ha]; simp)] at htw
      have h7 := R.weak h7 hs7
      refine reg21 hO rfl x21_l (by rw [hn]; exact x21_a) (by rw [hn]; exact x21_b) x21_4.1 x21_4.2.1 x21_4.2.2 (by rw [hn, n30]; decide) x21_8.1 x21_8.2.1 x21_8.2.2 hfl e5 hr5 F5 b5 h7 fun ι8 S8 a8 w8 g8 L8 h8 F8 => ?_
      refine code_sound (C := C.now w8 ι8 S8 []) p22 _ (by show chkC _ C.n _ _ = true; rw [hn]; exact chk_p22) h8.rebase (rn_ok _ (fun _ _ _ h => h) (wa30_22 l (.map (some m)) i hlt (by omega) (fun e σ H => e = .norm ∧ Has σ (s30 l (.map (some m)) (i + 1)) ∧ H = []) fun σ h => ⟨rfl, h, rfl⟩)) fun e ι9 S9 σ9 H9 a9 w9 hq h9 => ?_
      obtain ⟨rfl, hs9, rfl⟩ := hq
      have F9 := F8.step h8.hr h9
      have h9 := R.weak (R.unbase h8.base h9 no_ids0) hs9
      rw [← etake] at F9 htw
      exact ih (i + 1) ι9 S9 a9 w9 g8 L8 (by omega) hlt htw h9 F9
  exact main _ 0 ι7 S7 a7 w7 g L (Nat.lt_succ_self _) (Nat.zero_le _) rfl h7 F7
end Go.Proofs.Ytcpdnpaedkcebaa.V
namespace Go.Proofs.Ytcpdnpaedkcebaa.V
open Go Go.RowKit
set_option linter.unusedVariables false
set_option linter.unusedSimpArgs false
set_option maxRecDepth 100000
def isP (k : Value) : Prop := ∃ a b, k = .agg #[.int .i32 a, .int .i32 b]
def plainP (l : List Rec) (c : Int) : Bool := match hit l 1 c with | some r => decide (r.kind = 1) | none => false
def abc : ByteArray := ⟨#[97, 98, 99, 100, 101, 102, 103, 104, 105, 106, 107, 108, 109, 110, 111, 112, 113, 114, 115, 116, 117, 118, 119, 120, 121, 122]⟩
def digits : ByteArray := ⟨#[48, 49, 50, 51, 52, 53, 54, 55, 56, 57, 45, 46]⟩
def hB (r : Rec) (a b : Int) : LH := [(704, robj r), (1408, .obj [.c (.int .i32 a), .c (.int .i32 b)])]
def hS : LH := [(1472, .row 1 [.str abc, .str digits])]
end Go.Proofs.Ytcpdnpaedkcebaa.V
namespace Go.Proofs.Ytcpdnpaedkcebaa.V
open Go Go.RowKit
set_option linter.unusedVariables false
set_option linter.unusedSimpArgs false
def Rec.right (r : Rec) : Prop := r.ok ∧ rightR r = 0
theorem right_parts {r : Rec} (h : r.right) : famK r.kind ≠ 0 ∧ (r.kind = 15 → r.lo = 0 ∧ r.hi = 0) ∧ (r.kind ≠ 15 → 0 ≤ r.lo ∧ r.lo ≤ r.hi ∧ r.hi ≤ 1114111) ∧ fitsR r = true := by
  obtain ⟨hok, hr⟩ := h
  unfold rightR at hr
  by_cases hf : famK r.kind = 0
  · rw [if_pos hf] at hr; omega
  rw [if_neg hf] at hr
  by_cases hc : (if r.kind = 15 then r.lo = 0 ∧ r.hi = 0 else 0 ≤ r.lo ∧ r.lo ≤ r.hi ∧ r.hi ≤ 1114111) ∧ fitsR r = true
  · obtain ⟨h1, h2⟩ := hc
    refine ⟨hf, fun hk => ?_, fun hk => ?_, h2⟩
    · rw [if_pos hk] at h1; exact h1
    · rw [if_neg hk] at h1; exact h1
  · rw [if_neg hc] at hr; omega
theorem right_shift {r : Rec} (h : r.right) (hk : r.kind = 4) : 1 ≤ r.n ∧ r.n ≤ 64 := by
  have hf := (right_parts h).2.2.2
  unfold fitsR at hf
  simp only [hk] at hf
  simp only [Bool.and_eq_true, show ¬((4 : Int) = 3) by decide, if_false, if_true] at hf
  have h2 := hf.2
  unfold shiftsR at h2
  split at h2
  · simp only [Bool.and_eq_true, decide_eq_true_eq] at h2
    exact ⟨h2.1.1.1.1, h2.1.1.1.2⟩
  · cases h2
theorem right_span {r : Rec} (h : r.right) (hk : r.kind ≠ 15) : r.span := by
  obtain ⟨h1, h2, h3⟩ := (right_parts h).2.2.1 hk
  refine ⟨h.1, hk, h1, h2, h3, ?_, ?_⟩
  · unfold st
    split
    · rename_i h4; exact (right_shift h h4).1
    · omega
  · unfold st
    split
    · rename_i h4; exact (right_shift h h4).2
    · omega
theorem fam_ten {k : Int} : famK k = 10 ↔ k = 15 := by unfold famK; (repeat' split) <;> omega
theorem fam_le (k : Int) : famK k ≤ 10 := by unfold famK; (repeat' split) <;> omega
theorem clash_eq {o r : Rec} (ho : o.right) (hr : r.right) : (decide (famK o.kind = famK r.kind) && clashP (famK r.kind) o r) = clashF o r := by
  by_cases hf : famK o.kind = famK r.kind
  · by_cases hk : r.kind = 15
    · have hok : o.kind = 15 := fam_ten.1 (by rw [hf]; exact fam_ten.2 hk)
      unfold clashP clashF
      rw [hk, hok]
      simp [famK]
    · have hok : o.kind ≠ 15 := fun h => hk (fam_ten.1 (by rw [← hf]; exact fam_ten.2 h))
      have hlt : famK r.kind < 10 := by
        have h1 := fam_le r.kind
        have h2 := mt fam_ten.1 hk
        omega
      have h1 : clashP (famK r.kind) o r = meetR o r := by
        unfold clashP
        rw [decide_eq_true hlt, decide_eq_false (by omega)]
        simp
      rw [h1, decide_eq_true hf, Bool.true_and, Bool.eq_iff_iff, meetR_iff (right_span ho hok) (right_span hr hk), clashF_iff (right_span ho hok) (right_span hr hk) hf]
  · unfold clashF
    rw [decide_eq_false hf, if_pos hf]
    rfl
def Rec.wok (r : Rec) : Prop := r.weight < 18446744073709551616
theorem rights_none : ∀ {l : List Rec} {i : Int}, (∀ r ∈ l, r.ok) → rightsP l i = none → ∀ r ∈ l, r.right
  | r :: l, i, h, hn, x, hx => by
    rw [rightsP] at hn
    by_cases hr : rightR r ≠ 0
    · rw [if_pos hr] at hn; cases hn
    · rw [if_neg hr] at hn
      rcases List.mem_cons.1 hx with rfl | hx
      · exact ⟨h x (List.mem_cons_self ..), Decidable.of_not_not hr⟩
      · exact rights_none (fun y hy => h y (List.mem_cons_of_mem _ hy)) hn x hx
theorem any_fam {p : List Rec} {r : Rec} (hp : ∀ o ∈ p, o.right) (hr : r.right) : (fam p (famK r.kind)).any (fun o => clashP (famK r.kind) o r) = p.any (fun o => clashF o r) := by
  unfold fam
  rw [List.any_filter, Bool.eq_iff_iff]
  simp only [List.any_eq_true]
  constructor
  · rintro ⟨o, ho, h⟩; exact ⟨o, ho, (clash_eq (hp o ho) hr) ▸ h⟩
  · rintro ⟨o, ho, h⟩; exact ⟨o, ho, (clash_eq (hp o ho) hr).symm ▸ h⟩
theorem twice_eq (l : List Rec) : ∀ (s p : List Rec) (i : Int), (∀ o ∈ p, o.right) → (∀ o ∈ s, o.right) → twiceP p s i = twiceF l p s i
  | [], _, _, _, _ => rfl
  | r :: s, p, i, hp, hs => by
    have hr := hs r (List.mem_cons_self ..)
    have hs' : ∀ o ∈ s, o.right := fun x hx => hs x (List.mem_cons_of_mem _ hx)
    have hp' : ∀ o ∈ p ++ [r], o.right := fun x hx => by
      rcases List.mem_append.1 hx with h | h
      · exact hp x h
      · rw [List.mem_singleton.1 h]; exact hr
    rw [twiceP, twiceF, any_fam hp hr, twice_eq l s (p ++ [r]) (i + 1) hp' hs']
theorem check_right {l : List Rec} (h : ∀ r ∈ l, r.ok) (hc : (checkP l).2 = 0) : ∀ r ∈ l, r.right := by
  unfold checkP at hc
  split at hc
  · simp at hc
  · cases hr : rightsP l 0 with
    | none => exact rights_none h hr
    | some x =>
      exfalso
      rw [hr] at hc
      simp only at hc
      have : ∀ (l : List Rec) (i : Int) (x : Int × Int), rightsP l i = some x → x.2 ≠ 0 := by
        intro l
        induction l with
        | nil => intro i x h; simp [rightsP] at h
        | cons r l ih =>
          intro i x h
          rw [rightsP] at h
          split at h
          · rename_i h2; cases h; exact h2
          · exact ih _ _ h
      exact this l 0 x hr hc
end Go.Proofs.Ytcpdnpaedkcebaa.V
namespace Go.Proofs.Ytcpdnpaedkcebaa.V
open Go Go.RowKit
set_option linter.unusedVariables false
set_option linter.unusedSimpArgs false
set_option maxRecDepth 100000
def ep0 : IC := (.reg [⟨(some 2), 0, none, .mv (.c .nilsl)⟩,
  ⟨(some 3), 0, none, .mv (.c (.int .i64 0))⟩,
  ⟨(some 4), 0, none, .mv (.c (.int .i64 0))⟩])
theorem chk_ep0 : chkC Try.prog Try.f32.ntmps ep0 (seqA (codeOf Try.f32)) = true := by decide +kernel
def ep1 : IC := (.seq (.reg [⟨(some 13), 0, none, .mv (.t 0)⟩,
  ⟨(some 14), 1, none, .call (.c (.fn 30)) [((.t 13), .view 8)]⟩,
  ⟨(some 12), 0, none, .mv (.t 14)⟩,
  ⟨(some 15), 0, none, .ext (.t 12) 0⟩,
  ⟨(some 16), 0, none, .ext (.t 12) 1⟩,
  ⟨(some 5), 0, none, .mv (.t 15)⟩,
  ⟨(some 6), 0, none, .mv (.t 16)⟩]) (.seq (.reg [⟨(some 17), 0, none, .mv (.t 6)⟩,
  ⟨(some 18), 0, none, .bin .neq (.t 17) (.c (.int .i64 0))⟩]) (.cond (.t 18) (.seq (.reg [⟨(some 19), 0, none, .mv (.t 5)⟩,
  ⟨(some 20), 0, none, .mv (.t 6)⟩,
  ⟨(some 2), 0, none, .mv (.c .nilsl)⟩,
  ⟨(some 3), 0, none, .mv (.t 19)⟩,
  ⟨(some 4), 0, none, .mv (.t 20)⟩]) .ret) .skip)))
theorem chk_ep1 : chkC Try.prog Try.f32.ntmps ep1 (seqA (seqB (codeOf Try.f32))) = true := by decide +kernel
def l32_1 : IC := (.seq (.reg [⟨(some 47), 0, none, .bin .lss (.t 46) (.t 45)⟩]) (.seq (.cond (.t 47) .skip (.exit 2)) (.seq (.block 3 (.seq (.reg [⟨(some 48), 0, none, .ia (.t 44) (.t 46) 2⟩,
  ⟨(some 49), 0, none, .ld (.t 48) (some 2)⟩,
  ⟨(some 11), 25, none, .alloc [.nilfn, .nilfn]⟩,
  ⟨none, 0, none, .st (.t 11) (.t 49) (some 2)⟩]) (.reg [⟨(some 50), 0, none, .mv (.t 7)⟩,
  ⟨(some 51), 0, none, .fa (.t 11) 0⟩,
  ⟨(some 52), 0, none, .ld (.t 51) none⟩,
  ⟨(some 53), 0, none, .ld (.t 9) (some 8)⟩,
  ⟨(some 54), 26, none, .call (.t 52) [((.t 53), .plain)]⟩,
  ⟨(some 55), 36, none, .app (.t 50) (.t 54) 1 1 false⟩,
  ⟨(some 7), 0, none, .mv (.t 55)⟩]))) (.reg [⟨(some 56), 0, none, .bin .add (.t 46) (.c (.int .i64 1))⟩,
  ⟨(some 46), 0, none, .mv (.t 56)⟩]))))
def n32_1 : Norm := ⟨[(7, .own 1 1000007), (9, .plain), (30, .plain), (31, .plain), (32, .plain), (44, .own 2 1000044), (45, .plain), (46, .plain)], [(768, [.plain, .plain, .plain, .plain, .plain, .plain, .plain, .plain])]⟩
def l32_0 : IC := (.seq (.reg [⟨(some 33), 0, none, .bin .lss (.t 32) (.t 31)⟩]) (.seq (.cond (.t 33) .skip (.exit 0)) (.seq (.block 1 (.seq (.reg [⟨(some 34), 0, none, .ia (.t 30) (.t 32) 8⟩,
  ⟨(some 35), 0, none, .ld (.t 34) (some 8)⟩,
  ⟨(some 9), 12, none, .alloc [(.int .i64 0), (.int .i64 0), (.int .i64 0), (.int .i64 0), .nilsl, (.str ⟨#[]⟩), (.str ⟨#[]⟩), (.flt 0)]⟩,
  ⟨none, 0, none, .st (.t 9) (.t 35) (some 8)⟩]) (.seq (.reg [⟨(some 36), 0, none, .mv (.t 7)⟩,
  ⟨(some 37), 0, none, .fa (.t 9) 0⟩,
  ⟨(some 38), 0, none, .ld (.t 37) none⟩,
  ⟨(some 39), 0, none, .conv .u8 (.t 38)⟩,
  ⟨(some 40), 13, none, .bsl 1 [(.t 39)]⟩,
  ⟨(some 41), 14, none, .app (.t 36) (.t 40) 1 1 false⟩,
  ⟨(some 7), 0, none, .mv (.t 41)⟩]) (.seq (.seq (.reg [⟨(some 42), 0, none, .fa (.t 9) 0⟩,
  ⟨(some 43), 0, none, .ld (.t 42) none⟩,
  ⟨(some 44), 15, none, .call (.c (.fn 57)) [((.t 43), .plain)]⟩,
  ⟨(some 45), 0, none, .len false (.t 44)⟩,
  ⟨(some 46), 0, none, .mv (.c (.int .i64 0))⟩]) (.block 2 (.loop n32_1 l32_1))) (.seq (.reg [⟨(some 57), 0, none, .mv (.t 7)⟩,
  ⟨(some 58), 0, none, .len false (.t 57)⟩,
  ⟨(some 59), 0, none, .bin .gtr (.t 58) (.c (.int .i64 262144))⟩]) (.cond (.t 59) (.seq (.reg [⟨(some 2), 0, none, .mv (.c .nilsl)⟩,
  ⟨(some 3), 0, none, .mv (.c (.int .i64 0))⟩,
  ⟨(some 4), 0, none, .mv (.c (.int .i64 2))⟩]) .ret) .skip)))))) (.reg [⟨(some 60), 0, none, .bin .add (.t 32) (.c (.int .i64 1))⟩,
  ⟨(some 32), 0, none, .mv (.t 60)⟩]))))
def n32_0 : Norm := ⟨[(7, .own 1 1000007), (30, .plain), (31, .plain), (32, .plain)], []⟩
def ep2 : IC := (.seq (.reg [⟨(some 25), 0, none, .mv (.t 7)⟩,
  ⟨(some 26), 0, none, .mv (.t 0)⟩,
  ⟨(some 27), 0, none, .len false (.t 26)⟩,
  ⟨(some 28), 1, none, .call (.c (.fn 56)) [((.t 27), .plain)]⟩,
  ⟨(some 29), 11, none, .app (.t 25) (.t 28) 1 1 false⟩,
  ⟨(some 7), 0, none, .mv (.t 29)⟩]) (.seq (.seq (.reg [⟨(some 30), 0, none, .mv (.t 0)⟩,
  ⟨(some 31), 0, none, .len false (.t 30)⟩,
  ⟨(some 32), 0, none, .mv (.c (.int .i64 0))⟩]) (.block 0 (.loop n32_0 l32_0))) (.seq (.reg [⟨(some 61), 0, none, .mv (.t 7)⟩,
  ⟨(some 62), 0, none, .mv (.t 7)⟩,
  ⟨(some 63), 37, none, .call (.c (.fn 58)) [((.t 62), .view 1)]⟩,
  ⟨(some 64), 47, none, .app (.t 61) (.t 63) 1 1 false⟩,
  ⟨(some 7), 0, none, .mv (.t 64)⟩]) (.seq (.seq (.reg [⟨(some 65), 0, none, .mv (.t 7)⟩,
  ⟨(some 66), 0, none, .len false (.t 65)⟩,
  ⟨(some 67), 0, none, .bin .gtr (.t 66) (.c (.int .i64 262144))⟩]) (.cond (.t 67) (.seq (.reg [⟨(some 2), 0, none, .mv (.c .nilsl)⟩,
  ⟨(some 3), 0, none, .mv (.c (.int .i64 0))⟩,
  ⟨(some 4), 0, none, .mv (.c (.int .i64 2))⟩]) .ret) .skip)) (.seq (.reg [⟨(some 68), 0, none, .mv (.t 7)⟩,
  ⟨(some 2), 0, none, .mv (.t 68)⟩,
  ⟨(some 3), 0, none, .mv (.c (.int .i64 0))⟩,
  ⟨(some 4), 0, none, .mv (.c (.int .i64 0))⟩]) .ret)))))
theorem chk_ep2 : chkC Try.prog Try.f32.ntmps ep2 (seqB (seqB (seqB (codeOf Try.f32)))) = true := by decide +kernel
def writeF (f : Nat) (r : Rec) : List UInt8 :=
  if f = 81 then uintP r.lo else if f = 84 then uintP (IntKind.i64.wrap (r.hi - r.lo)) else if f = 86 then uintP r.n else if f = 88 then uintP (r.to.getD 0 0) else
  if f = 90 then toL r.to else if f = 92 then textL r.name else if f = 96 then textL r.other else floatL r.weight
theorem right_to {r : Rec} (h : r.right) : r.to.length ≤ 24 := by
  have hf := (right_parts h).2.2.2
  have none_to : ∀ {n m w : Bool}, noneR n true m w r = true → r.to.length ≤ 24 := by
    intro n m w hn
    unfold noneR at hn
    split at hn
    · cases hn
    · rename_i hc
      have : ¬(0 : Int) < r.to.length := fun h => hc (.inr ⟨rfl, h⟩)
      omega
  have snd_to : ∀ {a b : Int}, b ≤ 24 → soundR r a b = true → r.to.length ≤ 24 := by
    intro a b hb hn
    unfold soundR at hn
    simp only [Bool.and_eq_true, decide_eq_true_eq] at hn
    omega
  unfold fitsR at hf
  by_cases h3 : r.kind = 3
  · rw [if_pos h3] at hf; simp only [Bool.and_eq_true] at hf; exact snd_to (by decide) hf.2
  rw [if_neg h3] at hf
  by_cases h4 : r.kind = 4
  · rw [if_pos h4] at hf; simp only [Bool.and_eq_true] at hf
    have h2 := hf.2
    unfold shiftsR at h2
    split at h2
    · rename_i hto; rw [hto]; simp
    · cases h2
  rw [if_neg h4] at hf
  by_cases h5 : r.kind = 5
  · rw [if_pos h5] at hf; simp only [Bool.and_eq_true] at hf; exact snd_to (by decide) hf.2
  rw [if_neg h5] at hf
  by_cases h6 : r.kind = 6
  · rw [if_pos h6] at hf; simp only [Bool.and_eq_true] at hf; exact none_to hf.1
  rw [if_neg h6] at hf
  by_cases h7 : r.kind = 7
  · rw [if_pos h7] at hf; simp only [Bool.and_eq_true] at hf; exact snd_to (by decide) hf.2
  rw [if_neg h7] at hf
  by_cases h8 : r.kind = 8
  · rw [if_pos h8] at hf; simp only [Bool.and_eq_true] at hf; exact snd_to (by decide) hf.2
  rw [if_neg h8] at hf
  by_cases h9 : r.kind = 9
  · rw [if_pos h9] at hf; simp only [Bool.and_eq_true] at hf; exact none_to hf.1
  rw [if_neg h9] at hf
  by_cases h10 : r.kind = 10
  · rw [if_pos h10] at hf; simp only [Bool.and_eq_true] at hf; exact none_to hf.1
  rw [if_neg h10] at hf
  by_cases h12 : r.kind = 12
  · rw [if_pos h12] at hf; simp only [Bool.and_eq_true] at hf; exact none_to hf.1
  rw [if_neg h12] at hf
  by_cases h13 : r.kind = 13
  · rw [if_pos h13] at hf; simp only [Bool.and_eq_true] at hf; exact snd_to (by decide) hf.2
  rw [if_neg h13] at hf
  by_cases h14 : r.kind = 14
  · rw [if_pos h14] at hf; simp only [Bool.and_eq_true] at hf; exact none_to hf.1
  rw [if_neg h14] at hf
  by_cases h15 : r.kind = 15
  · rw [if_pos h15] at hf; simp only [Bool.and_eq_true] at hf; exact none_to hf.1.1.1.1
  rw [if_neg h15] at hf
  exact none_to hf
theorem name_four {s : ByteArray} (h : nameS s = true) : s.size = 4 := by
  unfold nameS at h
  simp only [Bool.and_eq_true, decide_eq_true_eq] at h
  exact h.1.1.1
theorem right_one4 {r : Rec} (h : r.right) (hk : r.kind = 4) : ∃ a, r.to = [a] := by
  have hf := (right_parts h).2.2.2
  unfold fitsR at hf
  rw [if_neg (by omega), if_pos hk] at hf
  simp only [Bool.and_eq_true] at hf
  have h2 := hf.2
  unfold shiftsR at h2
  split at h2
  · rename_i a hto; exact ⟨a, hto⟩
  · cases h2
theorem right_name {r : Rec} (h : r.right) (hk : r.kind = 12 ∨ r.kind = 15) : r.name.size = 4 := by
  have hf := (right_parts h).2.2.2
  unfold fitsR at hf
  rcases hk with hk | hk
  · simp only [hk] at hf; simp at hf; exact name_four hf.2
  · simp only [hk] at hf; simp at hf; exact name_four hf.1.1.1.2
theorem right_other {r : Rec} (h : r.right) (hk : r.kind = 15) : r.other.size = 4 := by
  have hf := (right_parts h).2.2.2
  unfold fitsR at hf
  simp only [hk] at hf; simp at hf; exact name_four hf.1.1.2
theorem parts8_88 {k : Int} (h : (88, 89) ∈ parts8 k) : k = 4 := by
  unfold parts8 at h
  (repeat' split at h) <;> simp at h <;> grind
theorem parts8_92 {k : Int} (h : (92, 94) ∈ parts8 k) : k = 12 ∨ k = 15 := by
  unfold parts8 at h
  (repeat' split at h) <;> simp at h <;> grind
theorem parts8_96 {k : Int} (h : (96, 97) ∈ parts8 k) : k = 15 := by
  unfold parts8 at h
  (repeat' split at h) <;> simp at h <;> grind
theorem cwWrite {r : Rec} (hr : r.right) (hw : r.wok) {p : Nat × Nat} (h : p ∈ parts8 r.kind) : CW Try.prog p.1 [.cv r.cv] ⟨[.own 1 (bys (writeF p.1 r))], []⟩ ∧ (writeF p.1 r).length ≤ 300 := by
  have hto := right_to hr
  have hok := hr.1
  have u9 : ∀ n : Int, n < 9223372036854775808 → (uintP n).length ≤ 300 := fun n hn => Nat.le_trans (uintP_9 hn) (by decide)
  have ts : ∀ s : ByteArray, s.size = 4 → (textL s).length ≤ 300 := fun s hs => by
    unfold textL
    have := uintL_9 (n := s.size) (by omega)
    rw [List.length_append, size_len]; omega
  rcases parts8_mem h with e | e | e | e | e | e | e | e <;> subst e
  · exact ⟨cw81 r hok, u9 _ hok.2.1.2⟩
  · exact ⟨cw84 r hok, u9 _ (wrap_ok _).2⟩
  · exact ⟨cw86 r hok, u9 _ hok.2.2.2.1.2⟩
  · obtain ⟨a, ha⟩ := right_one4 hr (parts8_88 h)
    have hc : i32ok a := hok.2.2.2.2 a (by rw [ha]; exact List.mem_singleton.2 rfl)
    have e : writeF 88 r = uintP a := by show uintP (r.to.getD 0 0) = _; rw [ha]; rfl
    rw [e]
    exact ⟨cw88 r hok a ha, u9 _ (by unfold i32ok at hc; omega)⟩
  · refine ⟨cw90 r hok (by omega), ?_⟩
    show (toL r.to).length ≤ 300
    unfold toL
    have h1 := uints_len r.to hok.2.2.2.2
    have h2 := uintP_9 (n := r.to.length) (by omega)
    rw [List.length_append]; omega
  · have h4 := right_name hr (parts8_92 h)
    exact ⟨cw92 r (by omega), ts _ h4⟩
  · have h4 := right_other hr (parts8_96 h)
    exact ⟨cw96 r (by omega), ts _ h4⟩
  · exact ⟨cw98 r hw, by show (floatL r.weight).length ≤ 300; rw [floatL_len]; decide⟩
def recL (r : Rec) : List UInt8 := by8 r.kind :: (parts8 r.kind).flatMap fun p => writeF p.1 r
def packH (n : Nat) : List UInt8 := [101, 110, 100, 111, 1] ++ uintL n
def packB (l : List Rec) : List UInt8 := (packH l.length ++ l.flatMap recL) ++ sum4 (sumW (packH l.length ++ l.flatMap recL))
def packF (l : List Rec) : List UInt8 × Int × Int :=
  if (checkP l).2 ≠ 0 then ([], checkP l) else if 262144 < (packB l).length then ([], 0, 2) else (packB l, 0, 0)
end Go.Proofs.Ytcpdnpaedkcebaa.V
namespace Go.Proofs.Ytcpdnpaedkcebaa.V
open Go Go.RowKit
set_option linter.unusedVariables false
set_option linter.unusedSimpArgs false
set_option maxRecDepth 100000
def h32 : LH := [(576000, .dead), (576064, .row 1 (bys [1])), (576128, .row 1 (bys [101, 110, 100, 111, 1]))]
theorem flat_len (l : List (Nat × Nat)) (r : Rec) (h : ∀ p ∈ l, (writeF p.1 r).length ≤ 300) : (l.flatMap fun p => writeF p.1 r).length ≤ 300 * l.length := by
  induction l with
  | nil => simp
  | cons p l ih =>
    have h1 := h p List.mem_cons_self
    have h2 := ih fun x hx => h x (List.mem_cons_of_mem _ hx)
    simp only [List.flatMap_cons, List.length_append, List.length_cons]
    omega
theorem parts8_len (k : Int) : (parts8 k).length ≤ 4 := by unfold parts8; (repeat' split) <;> simp
theorem recL_len {r : Rec} (hr : r.right) (hw : r.wok) : (recL r).length ≤ 1201 := by
  unfold recL
  have := flat_len (parts8 r.kind) r fun p hp => (cwWrite hr hw hp).2
  have := parts8_len r.kind
  simp only [List.length_cons]
  omega
theorem w32r (l : List Rec) (hn : l.length ≤ 4096) (hr : ∀ r ∈ l, r.right) (hw : ∀ r ∈ l, r.wok) (Q : Ex → Slots → LH → Prop)
    (hQ : ∀ σ H, OwnAt 1 (bys (if 262144 < (packB l).length then ([], 0, 2) else (packB l, 0, 0) : List UInt8 × Int × Int).1) (Slots.get σ 2) H → Slots.get σ 3 = .c (.int .i64 (if 262144 < (packB l).length then ([], 0, 2) else (packB l, 0, 0) : List UInt8 × Int × Int).2.1) →
      Slots.get σ 4 = .c (.int .i64 (if 262144 < (packB l).length then ([], 0, 2) else (packB l, 0, 0) : List UInt8 × Int × Int).2.2) → Q .ret σ H) :
    rnC Try.prog ep2 Q [(0, .c (.sl 8 (recs l))), (7, .osl 576128 0 5)] h32 := by
  have u9 := uintP_9 (n := (l.length : Int)) (by omega)
  unfold ep2 h32
  simp only [go_sem, ↓reduceIte, Nat.reduceEqDiff, Nat.reduceMul, Nat.reduceAdd, Nat.reduceDiv, Nat.reduceSub, Nat.reduceLT, Nat.reduceLeDiff, Int.reduceLE, Int.reduceLT, Int.reduceToNat, Int.reduceEq]
  refine callK_O 1 (bys (uintP (l.length : Int))) (fun _ => cw56 (l.length : Int) (by omega)) (by simp only [go_sem, ↓reduceIte, Nat.reduceEqDiff, Nat.reduceMul, Nat.reduceAdd, Nat.reduceDiv, Nat.reduceSub, Nat.reduceLT, Nat.reduceLeDiff, Int.reduceLE, Int.reduceLT, Int.reduceToNat, Int.reduceEq]) rfl rfl ?_
  simp only [go_sem, ↓reduceIte, Nat.reduceEqDiff, Nat.reduceMul, Nat.reduceAdd, Nat.reduceDiv, Nat.reduceSub, Nat.reduceLT, Nat.reduceLeDiff, Int.reduceLE, Int.reduceLT, Int.reduceToNat, Int.reduceEq]
  repeat (refine ⟨by (first | omega | (intro h1 h2; exact ⟨h1, h2⟩) | (intro h1; omega) | (intro h1; exact h1) | trivial), ?_⟩)
  have ht5 : List.take 5 (bys [101, 110, 100, 111, 1]) = bys [101, 110, 100, 111, 1] := rfl
  rw [bys_take, ht5, bys_len, bys_app, uintP_nat]
  have u9' := uintL_9 (n := l.length) (by omega)
  have e0 : [101, 110, 100, 111, 1] ++ uintL l.length = packH l.length := rfl
  have e00 : 5 + (uintL l.length).length = (packH l.length).length := by unfold packH; rw [List.length_append]; rfl
  rw [e0, e00]
  refine ⟨by omega, ?_⟩
  generalize hB : (fun i : Nat => packH l.length ++ (l.take i).flatMap recL) = B
  have hB0 : B 0 = packH l.length := by rw [← hB]; simp
  have hBl : (B 0).length ≤ 262144 := by rw [hB0, ← e00]; omega
  have hBm : ∀ i, (B i).length ≤ (packB l).length := fun i => by
    have h1 : ((l.take i).flatMap recL).length ≤ (l.flatMap recL).length := by
      conv => rhs; rw [← List.take_append_drop i l]
      rw [List.flatMap_append, List.length_append]; exact Nat.le_add_right _ _
    rw [← hB]
    unfold packB
    simp only [List.length_append]
    omega
  rw [← hB0]
  refine loopR.by (α := Nat) (fun i => [(7, .osl 1000007 0 (B i).length), (30, .c (.sl 8 (recs l))), (31, .c (.int .i64 l.length)), (32, .c (.int .i64 i))]) (fun i => [(1000007, .row 1 (bys (B i)))]) (fun i => l.length - i) (fun i => i ≤ l.length ∧ (B i).length ≤ 262144) 0 ⟨Nat.zero_le _, hBl⟩ ?_ ?_
  · intro Y hY
    simp only [go_sem, ↓reduceIte, Nat.reduceEqDiff, Nat.reduceMul, Nat.reduceAdd, Nat.reduceDiv, Nat.reduceSub, Nat.reduceLT, Nat.reduceLeDiff, Int.reduceLE, Int.reduceLT, Int.reduceToNat, Int.reduceEq, n32_0]
    first | exact hY | exact ⟨by simp, hY⟩
  intro i hi Y hY
  obtain ⟨hi, hlen⟩ := hi
  unfold l32_0
  rcases Nat.lt_or_ge i l.length with hlt | hge
  · obtain ⟨r, e, hm, hd⟩ := recs_at hlt
    have hrr := hr r hm
    have hwr := hw r hm
    have hL8 := recL_len hrr hwr
    have hB1 : B (i + 1) = B i ++ recL r := by
      have : l[i]? = some r := by rw [← List.head?_drop, hd]; rfl
      rw [← hB]
      simp only [List.take_add_one, this, Option.toList_some, List.flatMap_append, List.flatMap_cons, List.flatMap_nil, List.append_nil, List.append_assoc]
    have hY' := hY (i + 1)
    have hBm' := hBm (i + 1)
    rw [hB1] at hY' hBm'
    generalize hW : B i = W at *
    clear hW hY
    simp only [go_sem, ↓reduceIte, Nat.reduceEqDiff, Nat.reduceMul, Nat.reduceAdd, Nat.reduceDiv, Nat.reduceSub, Nat.reduceLT, Nat.reduceLeDiff, Int.reduceLE, Int.reduceLT, Int.reduceToNat, Int.reduceEq, n32_0, e]
    refine ⟨fun _ => ⟨by omega, by omega, ?_⟩, fun h => by omega⟩
    rw [bys_take, by8_cv]
    have hfl : (fcv (parts8 r.kind)).length = (parts8 r.kind).length := by simp [fcv]
    refine callK_O 2 (fcv (parts8 r.kind)) (fun _ => cw57 r.kind) (by simp only [go_sem, ↓reduceIte, Nat.reduceEqDiff, Nat.reduceMul, Nat.reduceAdd, Nat.reduceDiv, Nat.reduceSub, Nat.reduceLT, Nat.reduceLeDiff, Int.reduceLE, Int.reduceLT, Int.reduceToNat, Int.reduceEq]) rfl rfl ?_
    simp only [go_sem, ↓reduceIte, Nat.reduceEqDiff, Nat.reduceMul, Nat.reduceAdd, Nat.reduceDiv, Nat.reduceSub, Nat.reduceLT, Nat.reduceLeDiff, Int.reduceLE, Int.reduceLT, Int.reduceToNat, Int.reduceEq]
    repeat (refine ⟨by (first | omega | (intro h1 h2; exact ⟨h1, h2⟩) | (intro h1; omega) | (intro h1; exact h1) | trivial), ?_⟩)
    have hall := fun p hp => cwWrite hrr hwr (p := p) hp
    have hk8 := parts8_len r.kind
    have hrec : recL r = by8 r.kind :: (parts8 r.kind).flatMap fun p => writeF p.1 r := rfl
    rw [hfl, bys_one, bys_app]
    generalize hL : parts8 r.kind = L at *
    generalize hC : (fun j : Nat => (W ++ [by8 r.kind]) ++ (L.take j).flatMap fun p => writeF p.1 r) = C
    have hC0 : C 0 = W ++ [by8 r.kind] := by rw [← hC]; simp
    have hCn : C L.length = W ++ recL r := by rw [← hC, hrec]; simp
    have hCl : ∀ j, (C j).length ≤ 263400 := fun j => by
      rw [← hC]
      have h1 := flat_len (L.take j) r fun p hp => (hall p (List.mem_of_mem_take hp)).2
      have h2 : (L.take j).length ≤ 4 := by rw [List.length_take]; omega
      simp only [List.length_append, List.length_singleton]
      omega
    have e1 : W.length + 1 = (C 0).length := by rw [hC0]; simp
    have hCs : ∀ j (h : j < L.length), C (j + 1) = C j ++ writeF L[j].1 r := fun j h => by
      rw [← hC]
      simp only [List.take_add_one, List.getElem?_eq_getElem h, Option.toList_some, List.flatMap_append, List.flatMap_cons, List.flatMap_nil, List.append_nil, List.append_assoc]
    rw [← hC0, e1]
    clear hC hC0 e1 hrec
    refine loopR.by (α := Nat) (fun j => [(7, .osl 1000007 0 (C j).length), (9, .ref 768 0), (30, .c (.sl 8 (recs l))), (31, .c (.int .i64 l.length)), (32, .c (.int .i64 i)), (44, .osl 1000044 0 L.length), (45, .c (.int .i64 L.length)), (46, .c (.int .i64 j))])
      (fun j => [(1000007, .row 1 (bys (C j))), (1000044, .row 2 (fcv L)), (768, robj r)]) (fun j => L.length - j) (fun j => j ≤ L.length) 0 (Nat.zero_le _) ?_ ?_
    · intro Z hZ
      simp only [go_sem, ↓reduceIte, Nat.reduceEqDiff, Nat.reduceMul, Nat.reduceAdd, Nat.reduceDiv, Nat.reduceSub, Nat.reduceLT, Nat.reduceLeDiff, Int.reduceLE, Int.reduceLT, Int.reduceToNat, Int.reduceEq, n32_1, hfl]
      exact ⟨by simp, hZ⟩
    intro j hj Z hZ
    unfold l32_1 robj
    rcases Nat.lt_or_ge j L.length with hjl | hjg
    · have ee : (fcv L).getD j .undef = .agg [.fn L[j].1, .fn L[j].2] := by simp [fcv, List.getD_eq_getElem?_getD, hjl]
      have hcall := hall L[j] (List.getElem_mem hjl)
      have hs := hCs j hjl
      have hZ' := hZ (j + 1) (by omega) (by omega)
      rw [hs] at hZ'
      have hl0 := hCl j
      generalize L[j] = p at ee hcall hZ'
      simp only [go_sem, ↓reduceIte, Nat.reduceEqDiff, Nat.reduceMul, Nat.reduceAdd, Nat.reduceDiv, Nat.reduceSub, Nat.reduceLT, Nat.reduceLeDiff, Int.reduceLE, Int.reduceLT, Int.reduceToNat, Int.reduceEq, n32_1, ee, hfl]
      refine ⟨fun _ => ⟨by omega, ?_⟩, fun h => by omega⟩
      refine callK_O 1 (bys (writeF p.1 r)) (fun _ => hcall.1) (by simp only [go_sem, ↓reduceIte, Nat.reduceEqDiff, Nat.reduceMul, Nat.reduceAdd, Nat.reduceDiv, Nat.reduceSub, Nat.reduceLT, Nat.reduceLeDiff, Int.reduceLE, Int.reduceLT, Int.reduceToNat, Int.reduceEq]) rfl rfl ?_
      simp only [go_sem, ↓reduceIte, Nat.reduceEqDiff, Nat.reduceMul, Nat.reduceAdd, Nat.reduceDiv, Nat.reduceSub, Nat.reduceLT, Nat.reduceLeDiff, Int.reduceLE, Int.reduceLT, Int.reduceToNat, Int.reduceEq, hfl]
      have := hcall.2
      rw [bys_take, bys_take, bys_app, succ64 hjl (by omega)]
      simp only [bys_len]
      rw [List.length_append] at hZ'
      exact ⟨by omega, ⟨trivial, by simp⟩, hZ'⟩
    · have : j = L.length := by omega
      subst this
      have ee : (fcv L).getD L.length .undef = .undef := by
        rw [List.getD_eq_getElem?_getD, List.getElem?_eq_none (by omega)]; rfl
      simp only [go_sem, ↓reduceIte, Nat.reduceEqDiff, Nat.reduceMul, Nat.reduceAdd, Nat.reduceDiv, Nat.reduceSub, Nat.reduceLT, Nat.reduceLeDiff, Int.reduceLE, Int.reduceLT, Int.reduceToNat, Int.reduceEq, n32_1, ee, hfl]
      refine ⟨fun h => by omega, fun _ => ?_⟩
      rw [hCn]
      refine ⟨fun h => ?_, fun h => ?_⟩
      · rw [if_pos (by omega)] at hQ
        exact hQ _ _ (.inl ⟨rfl, rfl⟩) rfl rfl
      · rw [succ64 hlt (by omega)]
        exact hY' ⟨by omega, by omega⟩ (by omega)
  · have : i = l.length := by omega
    subst this
    have e : (recs l).getD l.length .undef = .undef := by
      rw [List.getD_eq_getElem?_getD, List.getElem?_eq_none (by rw [recs_len]; omega)]; rfl
    simp only [go_sem, ↓reduceIte, Nat.reduceEqDiff, Nat.reduceMul, Nat.reduceAdd, Nat.reduceDiv, Nat.reduceSub, Nat.reduceLT, Nat.reduceLeDiff, Int.reduceLE, Int.reduceLT, Int.reduceToNat, Int.reduceEq, n32_0, e]
    refine ⟨fun h => by omega, fun _ => ?_⟩
    have hBn : B l.length = packH l.length ++ l.flatMap recL := by rw [← hB]; simp
    have hp : packB l = B l.length ++ sum4 (sumW (B l.length)) := by rw [hBn]; rfl
    rw [hp] at hQ
    have c58 := cw58 (B l.length) (by omega)
    generalize B l.length = W at hlen hQ c58
    clear hB hBm hB0 hBl hBn hp hY
    have h4 : (sum4 (sumW W)).length = 4 := rfl
    have hsc := bys_scalar (sum4 (sumW W))
    generalize sum4 (sumW W) = X at hQ c58 h4 hsc
    refine callK_i ⟨[.own 1 (bys X)], []⟩ (fun _ => by rw [bys_take]; exact c58) ⟨by simp only [go_sem, ↓reduceIte, Nat.reduceEqDiff, Nat.reduceMul, Nat.reduceAdd, Nat.reduceDiv, Nat.reduceSub, Nat.reduceLT, Nat.reduceLeDiff, Int.reduceLE, Int.reduceLT, Int.reduceToNat, Int.reduceEq], .inr ⟨by simpa [OC.scalar, CV.scalar] using hsc, by simp⟩, ⟨by simp only [go_sem, ↓reduceIte, Nat.reduceEqDiff, Nat.reduceMul, Nat.reduceAdd, Nat.reduceDiv, Nat.reduceSub, Nat.reduceLT, Nat.reduceLeDiff, Int.reduceLE, Int.reduceLT, Int.reduceToNat, Int.reduceEq], by simp, by simp, by simp⟩, ?_⟩
    simp only [go_sem, ↓reduceIte, Nat.reduceEqDiff, Nat.reduceMul, Nat.reduceAdd, Nat.reduceDiv, Nat.reduceSub, Nat.reduceLT, Nat.reduceLeDiff, Int.reduceLE, Int.reduceLT, Int.reduceToNat, Int.reduceEq]
    rw [bys_take, bys_take, bys_app]
    simp only [bys_len, h4]
    have hl : (W ++ X).length = W.length + 4 := by rw [List.length_append, h4]
    rw [hl] at hQ
    refine ⟨by omega, fun h => ?_, fun h => ?_⟩
    · rw [if_pos (by omega)] at hQ
      exact hQ _ _ (.inl ⟨rfl, rfl⟩) rfl rfl
    · rw [if_neg (by omega)] at hQ
      exact hQ _ _ (own_at rfl (by rw [bys_len]; show W.length + 4 = (W ++ X).length; omega) rfl) rfl rfl
end Go.Proofs.Ytcpdnpaedkcebaa.V
namespace Go.Proofs.Ytcpdnpaedkcebaa.V
open Go Go.RowKit
set_option linter.unusedVariables false
set_option linter.unusedSimpArgs false
theorem hit_spec {l : List Rec} {f c : Int} {r : Rec} (h : hit l f c = some r) : r ∈ l ∧ famK r.kind = f ∧ speaksR r c = true := by
  unfold hit at h
  split at h
  · cases h
  · have := List.find?_some h
    simp only [Bool.and_eq_true, decide_eq_true_eq] at this
    exact ⟨List.mem_of_find?_eq_some h, this⟩
theorem hit_none {l : List Rec} {f c : Int} (h : ∀ r ∈ l, famK r.kind = f → speaksR r c = true → False) : hit l f c = none := by
  cases hh : hit l f c with
  | none => rfl
  | some r => have := hit_spec hh; exact (h r this.1 this.2.1 this.2.2).elim
theorem speaks_in {r : Rec} {c : Int} (h : speaksR r c = true) : r.lo ≤ c ∧ c ≤ r.hi ∧ 0 ≤ c ∧ c ≤ 1114111 := by
  unfold speaksR at h
  split at h
  · cases h
  · omega
theorem wrong_zero {l : List Rec} {r : Rec} (h : wrongP l r = 0) (hf : famK r.kind = 2 ∨ famK r.kind = 3) :
    128 ≤ r.lo ∧ hangulF r = false ∧ (famK r.kind = 3 → ∃ x, fullL l (IntKind.i32.wrap r.lo) = .ok x ∧ fallsL l x = false ∧ (r.kind = 7 → pairsL l r = true)) := by
  unfold wrongP at h
  rw [if_neg (by omega)] at h
  by_cases h1 : r.lo < 128
  · rw [if_pos h1] at h; omega
  rw [if_neg h1] at h
  by_cases h2 : hangulF r = true
  · rw [if_pos h2] at h; omega
  rw [if_neg h2] at h
  refine ⟨by omega, by simpa using h2, fun h3 => ?_⟩
  rw [if_neg (by omega)] at h
  cases hx : fullL l (IntKind.i32.wrap r.lo) with
  | error e => rw [hx] at h; exact absurd h (walkN_ne l 16 _ _ _ e hx)
  | ok x =>
    rw [hx] at h
    simp only at h
    by_cases h4 : fallsL l x = true
    · rw [if_pos h4] at h; omega
    rw [if_neg h4] at h
    refine ⟨x, rfl, by simpa using h4, fun hk => ?_⟩
    cases hp : pairsL l r with
    | true => rfl
    | false => rw [if_pos ⟨hk, hp⟩] at h; omega
structure Good (l : List Rec) : Prop where
  ok : ∀ r ∈ l, r.ok
  chk : (checkP l).2 = 0
  right : ∀ r ∈ l, r.right
  zero : ∀ r ∈ l, wrongP l r = 0
def jamo (c : Int) : Prop := 4352 ≤ c ∧ c ≤ 4370 ∨ 4449 ≤ c ∧ c ≤ 4469 ∨ 4520 ≤ c ∧ c ≤ 4546
theorem no_hangul {r : Rec} {c : Int} (h : hangulF r = false) (h1 : r.lo ≤ c) (h2 : c ≤ r.hi) : ¬jamo c := by
  unfold hangulF coversR at h
  simp only [Bool.or_eq_false_iff, Bool.and_eq_false_iff, decide_eq_false_iff_not] at h
  unfold jamo
  omega
theorem Good.jamo {l : List Rec} (h : Good l) {c : Int} (hc : jamo c) {f : Int} (hf : f = 2 ∨ f = 3) : hit l f c = none :=
  hit_none fun r hr hk hs => by
    have := speaks_in hs
    exact no_hangul (wrong_zero (h.zero r hr) (by omega)).2.1 this.1 this.2.1 hc
theorem Good.jopen {l : List Rec} (h : Good l) {c : Int} (hc : V.jamo c) : openL l c = [] := by
  unfold openL
  have : ¬syl c = true := by
    unfold syl; unfold V.jamo at hc
    simp only [Bool.and_eq_true, decide_eq_true_eq]
    omega
  rw [if_neg this, h.jamo hc (.inr rfl)]
theorem syl_iff (c : Int) : syl c = true ↔ 44032 ≤ c ∧ c ≤ 55203 := by unfold syl; simp
theorem part_spec {c : Int} (hc : syl c = true) :
    ((c - 44032) % 28 = 0 ∧ V.jamo (partA c) ∧ V.jamo (partB c)) ∨ ((c - 44032) % 28 ≠ 0 ∧ syl (partA c) = true ∧ (partA c - 44032) % 28 = 0 ∧ partA c ≠ c ∧ V.jamo (partB c)) := by
  rw [syl_iff] at hc
  have e1 : IntKind.i32.wrap (c - 44032) = c - 44032 := by rw [wrap_i32]; omega
  have e2 : (c - 44032).tmod 28 = (c - 44032) % 28 := Int.tmod_eq_emod_of_nonneg (by omega)
  have e3 : (c - 44032).tdiv 28 = (c - 44032) / 28 := Int.tdiv_eq_ediv_of_nonneg (by omega)
  unfold partA partB
  rw [e1, e2, e3]
  have e4 : IntKind.i32.wrap ((c - 44032) / 28) = (c - 44032) / 28 := by rw [wrap_i32]; omega
  have e5 : ((c - 44032) / 28).tmod 21 = (c - 44032) / 28 % 21 := Int.tmod_eq_emod_of_nonneg (by omega)
  have e6 : ((c - 44032) / 28).tdiv 21 = (c - 44032) / 28 / 21 := Int.tdiv_eq_ediv_of_nonneg (by omega)
  rw [e4, e5, e6]
  have e7 : ∀ t : Int, 0 ≤ t → t < 28 → IntKind.i32.wrap (c - t) = c - t := fun t h1 h2 => by rw [wrap_i32]; omega
  have e8 : 0 ≤ (c - 44032) % 28 ∧ (c - 44032) % 28 < 28 := by omega
  by_cases h : 0 < (c - 44032) % 28
  · rw [if_pos h, if_pos h, syl_iff, e7 _ e8.1 e8.2]
    clear e2 e3 e4 e5 e6 e7
    refine .inr ⟨by omega, ⟨by omega, by omega⟩, by omega, by omega, ?_⟩
    simp only [wrap_i32, V.jamo]
    omega
  · rw [if_neg h, if_neg h]
    refine .inl ⟨by omega, ?_, ?_⟩ <;> simp only [wrap_i32, V.jamo] <;> omega
theorem walk_leaf {l : List Rec} {n : Nat} {c : Int} {way out : List Int} (h : openL l c = []) (ho : out.length < 32) : walkN l n c way out = .ok (out ++ [c]) := by
  rw [walkN_unfold, if_pos h, if_neg (by omega)]
theorem walk_two {l : List Rec} {n : Nat} {c a b : Int} {way out y z : List Int} (h : openL l c = [a, b]) (hc : c ∉ way) (h1 : walkN l n a (way ++ [c]) out = .ok y) (h2 : walkN l n b (way ++ [c]) y = .ok z) : walkN l (n + 1) c way out = .ok z := by
  rw [walkN_unfold, if_neg (by rw [h]; simp), if_neg hc, h]
  simp only [List.foldlM_cons, List.foldlM_nil, h1]
  show (walkN l n b (way ++ [c]) y >>= fun s => pure s) = _
  rw [h2]
  rfl
theorem Good.syl {l : List Rec} (h : Good l) {c : Int} (hc : V.syl c = true) : ∃ x, fullL l c = .ok x ∧ ∀ t ∈ x, V.jamo t := by
  have ho : openL l c = [partA c, partB c] := by unfold openL; rw [if_pos hc]
  unfold fullL
  rcases part_spec hc with ⟨_, ha, hb⟩ | ⟨_, ha, hm, hne, hb⟩
  · refine ⟨[partA c, partB c], walk_two ho (by simp) (walk_leaf (h.jopen ha) (by simp)) (walk_leaf (h.jopen hb) (by simp)), ?_⟩
    intro t ht
    simp only [List.mem_cons, List.not_mem_nil, or_false] at ht
    rcases ht with rfl | rfl
    · exact ha
    · exact hb
  · have ho2 : openL l (partA c) = [partA (partA c), partB (partA c)] := by unfold openL; rw [if_pos ha]
    rcases part_spec ha with ⟨_, ha2, hb2⟩ | ⟨hx, _⟩
    · refine ⟨[partA (partA c), partB (partA c), partB c], walk_two ho (by simp) (walk_two ho2 (by simpa using hne) (walk_leaf (h.jopen ha2) (by simp)) (walk_leaf (h.jopen hb2) (by simp))) (walk_leaf (h.jopen hb) (by simp)), ?_⟩
      intro t ht
      simp only [List.mem_cons, List.not_mem_nil, or_false] at ht
      rcases ht with rfl | rfl | rfl
      · exact ha2
      · exact hb2
      · exact hb
    · exact absurd hm hx
end Go.Proofs.Ytcpdnpaedkcebaa.V
namespace Go.Proofs.Ytcpdnpaedkcebaa.V
open Go Go.RowKit
set_option linter.unusedVariables false
set_option linter.unusedSimpArgs false
def Alike (l m : List Rec) : Prop := ∀ f c, f ≤ 3 → hit l f c = hit m f c
theorem Alike.open {l m : List Rec} (h : Alike l m) (c : Int) : openL l c = openL m c := by unfold openL; rw [h 3 c (by decide)]
theorem Alike.plain {l m : List Rec} (h : Alike l m) (c : Int) : plainP l c = plainP m c := by unfold plainP; rw [h 1 c (by decide)]
theorem Alike.walk {l m : List Rec} (h : Alike l m) : ∀ (n : Nat) (c : Int) (way out : List Int), walkN l n c way out = walkN m n c way out := by
  intro n
  induction n with
  | zero => intro c way out; rw [walkN_unfold, walkN_unfold, h.open]
  | succ n ih =>
    intro c way out
    rw [walkN_unfold, walkN_unfold, h.open]
    have : (fun out t => walkN l n t (way ++ [c]) out) = (fun out t => walkN m n t (way ++ [c]) out) := by
      funext o t; exact ih t _ o
    simp only [this]
def Apart (a b : Rec) : Prop := a.right → b.right → clashF a b = false
theorem clash_mix {a b : Rec} (ha : a.kind = 15) (hb : b.kind = 15) : clashF a b = clashF b a := by
  unfold clashF
  rw [ha, hb]
  rw [Bool.eq_iff_iff]
  simp
  constructor <;> (rintro (⟨h1, h2⟩ | ⟨h1, h2⟩) <;> simp [h1, h2])
theorem Apart.symm {a b : Rec} (h : Apart a b) : Apart b a := by
  intro hb ha
  have h1 := h ha hb
  by_cases hf : famK a.kind = famK b.kind
  · by_cases hk : a.kind = 15
    · have hk2 : b.kind = 15 := fam_ten.1 (by rw [← hf]; exact fam_ten.2 hk)
      rw [clash_mix hk2 hk]; exact h1
    · have hk2 : b.kind ≠ 15 := fun h => hk (fam_ten.1 (by rw [hf]; exact fam_ten.2 h))
      cases h2 : clashF b a with
      | false => rfl
      | true =>
        have h3 := (clashF_iff (right_span hb hk2) (right_span ha hk) hf.symm).1 h2
        have h4 := (clashF_iff (right_span ha hk) (right_span hb hk2) hf).2 h3.symm
        rw [h1] at h4; cases h4
  · unfold clashF
    rw [if_pos (fun h => hf h.symm)]
theorem twice_iff (l : List Rec) : ∀ (s p : List Rec) (i : Int), twiceF l p s i = none ↔ (∀ r ∈ s, ∀ o ∈ p, clashF o r = false) ∧ s.Pairwise (fun o r => clashF o r = false)
  | [], p, i => by simp [twiceF]
  | r :: s, p, i => by
    rw [twiceF]
    by_cases h : p.any (fun o => clashF o r) = true
    · rw [if_pos h]
      simp only [reduceCtorEq, false_iff]
      rintro ⟨h1, _⟩
      obtain ⟨o, ho, h2⟩ := List.any_eq_true.1 h
      rw [h1 r (List.mem_cons_self ..) o ho] at h2
      cases h2
    · rw [if_neg h, twice_iff l s (p ++ [r]) (i + 1), List.pairwise_cons]
      have h0 : ∀ o ∈ p, clashF o r = false := fun o ho => by
        cases h2 : clashF o r with
        | false => rfl
        | true => exact absurd (List.any_eq_true.2 ⟨o, ho, h2⟩) h
      constructor
      · rintro ⟨h1, h2⟩
        refine ⟨fun x hx o ho => ?_, fun x hx => h1 x hx r (by simp), h2⟩
        rcases List.mem_cons.1 hx with rfl | hx
        · exact h0 o ho
        · exact h1 x hx o (List.mem_append.2 (.inl ho))
      · rintro ⟨h1, h2, h3⟩
        refine ⟨fun x hx o ho => ?_, h3⟩
        rcases List.mem_append.1 ho with ho | ho
        · exact h1 x (List.mem_cons_of_mem _ hx) o ho
        · rw [List.mem_singleton.1 ho]; exact h2 x hx
theorem rights_all : ∀ {l : List Rec} {i : Int}, (∀ r ∈ l, r.right) → rightsP l i = none
  | [], _, _ => rfl
  | r :: l, i, h => by
    rw [rightsP, if_neg (by rw [(h r (List.mem_cons_self ..)).2]; simp)]
    exact rights_all fun x hx => h x (List.mem_cons_of_mem _ hx)
theorem check_zero {l : List Rec} (h : ∀ r ∈ l, r.ok) : (checkP l).2 = 0 ↔ l.length ≤ 4096 ∧ (∀ r ∈ l, r.right) ∧ l.Pairwise Apart := by
  constructor
  · intro hc
    have hr := check_right h hc
    unfold checkP at hc
    rw [rights_all hr] at hc
    by_cases hn : 4096 < l.length
    · rw [if_pos hn] at hc; simp at hc
    rw [if_neg hn] at hc
    cases ht : twiceP [] l 0 with
    | some i => rw [ht] at hc; simp at hc
    | none =>
      rw [twice_eq l l [] 0 (by simp) hr] at ht
      exact ⟨by omega, hr, ((twice_iff l l [] 0).1 ht).2.imp fun h _ _ => h⟩
  · rintro ⟨h1, h2, h3⟩
    unfold checkP
    rw [rights_all h2, if_neg (by omega), twice_eq l l [] 0 (by simp) h2, (twice_iff l l [] 0).2 ⟨by simp, ?_⟩]
    exact h3.imp_of_mem fun ha hb h => h (h2 _ ha) (h2 _ hb)
end Go.Proofs.Ytcpdnpaedkcebaa.V
namespace Go.Proofs.Ytcpdnpaedkcebaa.V
open Go Go.RowKit
set_option linter.unusedVariables false
set_option linter.unusedSimpArgs false
set_option maxRecDepth 100000
theorem split32 : codeOf Try.f32 = .seq (seqA (codeOf Try.f32)) (.seq (seqA (seqB (codeOf Try.f32))) (.seq (.region 4 (opsOf (seqA (seqB (seqB (codeOf Try.f32))))) false) (seqB (seqB (seqB (codeOf Try.f32)))))) := by kernel_rfl
def z4 (f : Func) : Array Oper := opsOf (seqA (seqB (seqB (codeOf f))))
theorem z4_l : (z4 Try.f32).toList = at_ (z4 Try.f32) 0 :: at_ (z4 Try.f32) 1 :: (z4 Try.f32).toList.drop 2 := by kernel_rfl
def endo4 : Array Value := #[.int .u8 101, .int .u8 110, .int .u8 100, .int .u8 111]
theorem i5 : Try.prog.info? 5 = some Try.t5 := by kernel_rfl
theorem o0_op : (at_ (z4 Try.f32) 0).op = .buildSlice 52 4 #[(0, .const (.int .u8 101)), (1, .const (.int .u8 110)), (2, .const (.int .u8 100)), (3, .const (.int .u8 111))] := by kernel_rfl
theorem o1_op : (at_ (z4 Try.f32) 1).op = .convert 52 52 (.tmp 21) := by kernel_rfl
theorem o0_dst : (at_ (z4 Try.f32) 0).dst = some 21 := by kernel_rfl
theorem o1_dst : (at_ (z4 Try.f32) 1).dst = some 22 := by kernel_rfl
theorem o0_gd : (at_ (z4 Try.f32) 0).guard = none := by kernel_rfl
theorem o1_gd : (at_ (z4 Try.f32) 1).guard = none := by kernel_rfl
theorem run_conv (w : World) : (convert 52 52 (.slice (some ⟨w.heap.size, 0, none⟩) 4 4)).run Try.prog (w.alloc (.cells endo4 5)) = .ok (.slice (some ⟨w.heap.size, 0, none⟩) 4 4) { w with heap := w.heap.push (.cells endo4 5 (4, 5)) } := by
  have h3 : (w.alloc (.cells endo4 5)).heap[w.heap.size]? = some (.cells endo4 5 (0, 0)) := by
    show (w.heap.push _)[w.heap.size]? = _
    simp
  have hsh : (w.alloc (.cells endo4 5)).shape? w.heap.size = some (5, 4) := by
    unfold World.shape?; rw [h3]; rfl
  have hrun : (markStringish ⟨w.heap.size, 0, none⟩).run Try.prog (w.alloc (.cells endo4 5)) = .ok () ((w.alloc (.cells endo4 5)).freeze ⟨w.heap.size, 4, none⟩ 1) := by
    simp only [markStringish, shape, Sem.run_bind, Sem.run, hsh, Result.andThen_ok, freeze]
  have hw : (w.alloc (.cells endo4 5)).freeze ⟨w.heap.size, 4, none⟩ 1 = { w with heap := w.heap.push (.cells endo4 5 (4, 5)) } := by
    show World.mk _ _ _ _ _ = World.mk _ _ _ _ _
    congr 1
    show (w.heap.push _).modify _ _ = _
    apply Array.ext_getElem?
    intro k
    rw [Array.getElem?_modify]
    by_cases hk : w.heap.size = k
    · subst hk; simp
    · rw [if_neg hk, Array.getElem?_push, Array.getElem?_push]
      simp [Ne.symm hk]
  simp only [convert, Sem.run_bind, run_underlying Try.underlying52, run_underlying Try.underlying5, Result.andThen_ok]
  show ((markStringish ⟨w.heap.size, 0, none⟩) >>= fun _ => pure (Value.slice (some ⟨w.heap.size, 0, none⟩) 4 4)).run Try.prog _ = _
  rw [Sem.run_bind, hrun, Result.andThen_ok, hw]
  rfl
theorem beg32 {C : Ctx} {ι : Nat → Loc} {S : Nat → Prop} {σ : Slots} {a : Act} {w : World} (h : R C ι S σ [] a w) (hn : C.n = Try.f32.ntmps) {Q : Exit → Act → World → Prop} {rest : List Oper}
    (hk : ∀ ι' a' w', R C ι' S ((22, .osl 576000 0 4) :: (21, .osl 576000 0 4) :: σ) [(576000, .row 1 (bys [101, 110, 100, 111]))] a' w' → wpList Try.prog (z4 Try.f32) Q rest a' w') :
    wpList Try.prog (z4 Try.f32) Q (at_ (z4 Try.f32) 0 :: at_ (z4 Try.f32) 1 :: rest) a w := by
  have w0 : ∀ tm, Region.wanted (at_ (z4 Try.f32) 0) (yielded (z4 Try.f32) tm) = true := fun tm => by unfold Region.wanted; rw [o0_gd]
  have w1 : ∀ tm, Region.wanted (at_ (z4 Try.f32) 1) (yielded (z4 Try.f32) tm) = true := fun tm => by unfold Region.wanted; rw [o1_gd]
  rw [wpList, if_pos (w0 _)]
  left
  have hie : ∃ ie, Try.prog.info? 5 = some ie ∧ ie.size = 1 ∧ ie.zero = some (.int .u8 0) := ⟨Try.t5, i5, by kernel_rfl, by kernel_rfl⟩
  obtain ⟨ie, hie, hsz, hz⟩ := hie
  refine wp_buildSlice 52 5 4 _ o0_op endo4 ie (.int .u8 0) Try.underlying52 hie hz (by rw [hsz]; decide) (by rw [hsz]; decide) (by
    rw [hsz]
    rw [Array.toList_map]
    show Instr.fill (fun i => some (i * 1, 1)) _ [(0, Value.int .u8 101), (1, Value.int .u8 110), (2, Value.int .u8 100), (3, Value.int .u8 111)] = some endo4
    kernel_rfl) ?_
  rw [wpList, if_pos (w1 _)]
  left
  unfold Oper.wp execOp
  rw [o0_dst]
  have hsz : 21 < a.tmps.size := by rw [h.size, hn]; decide +kernel
  have he : (a.put (some 21) (.slice (some ⟨w.heap.size, 0, none⟩) 4 4)).eval (.tmp 21) = .slice (some ⟨w.heap.size, 0, none⟩) 4 4 := by
    simp [Act.eval, Act.put, hsz]
  simp only [o1_op, he, Sem.run_bind, run_conv w, Result.andThen_ok]
  show wpList _ _ _ _ _ _
  rw [o1_dst]
  obtain ⟨ι', hR, hv⟩ := mk_row (u := 9000) h (w' := { w with heap := w.heap.push (.cells endo4 5 (4, 5)) }) ⟨by decide, by simp⟩ rfl rfl rfl rfl (e := 1) (xs := bys [101, 110, 100, 111]) (cap := 4) (by decide) (fun x hx => by
      obtain ⟨c, _, rfl⟩ := List.mem_map.1 hx
      exact ⟨rfl, by simp [u8, CV.cells, CV.one]⟩) (by decide) (.inr (by decide)) (fun i j hi hj => by
      have : j = 0 := by omega
      subst this
      have hi : i < 4 := hi
      match i, hi with
      | 0, _ => exact .int _ _
      | 1, _ => exact .int _ _
      | 2, _ => exact .int _ _
      | 3, _ => exact .int _ _)
  have h1 := hR.put (d := some 21) hv (fun k hk => by cases hk; rw [hn]; decide +kernel)
  have h2 := h1.put (d := some 22) hv (fun k hk => by cases hk; rw [hn]; decide +kernel)
  exact hk _ _ _ h2
def q32c : List IOp := [⟨some 23, 9001, none, .bsl 1 [.c (.int .u8 1)]⟩, ⟨some 24, 9002, none, .app (.t 22) (.t 23) 1 1 false⟩, ⟨some 7, 0, none, .mv (.t 24)⟩]
theorem z4_c : chkOps Try.prog Try.f32.ntmps (z4 Try.f32) ((z4 Try.f32).toList.drop 2) q32c = true := by decide +kernel
theorem w32c (l : List Rec) (Q : Ex → Slots → LH → Prop) (hQ : ∀ σ, Has σ [(0, .c (.sl 8 (recs l))), (7, .osl 576128 0 5)] → Q .norm σ h32) : rnC Try.prog (.reg q32c) Q [(22, .osl 576000 0 4), (0, .c (.sl 8 (recs l)))] [(576000, .row 1 (bys [101, 110, 100, 111]))] := by
  unfold q32c
  simp only [go_sem, ↓reduceIte, Nat.reduceEqDiff, Nat.reduceMul, Nat.reduceAdd, Nat.reduceDiv, Nat.reduceSub, Nat.reduceLT, Nat.reduceLeDiff, Int.reduceLE, Int.reduceLT, Int.reduceToNat, Int.reduceEq]
  exact hQ _ ⟨rfl, rfl, trivial⟩
theorem wp0 (l : List Rec) (Q : Ex → Slots → LH → Prop) (hQ : ∀ σ, Has σ [(0, .c (.sl 8 (recs l)))] → Q .norm σ []) : rnC Try.prog ep0 Q [(0, .c (.sl 8 (recs l)))] [] := by
  unfold ep0
  simp only [go_sem, ↓reduceIte, Nat.reduceEqDiff, Nat.reduceMul, Nat.reduceAdd, Nat.reduceDiv, Nat.reduceSub, Nat.reduceLT, Nat.reduceLeDiff, Int.reduceLE, Int.reduceLT, Int.reduceToNat, Int.reduceEq]
  exact hQ _ ⟨rfl, trivial⟩
theorem wp1 (l : List Rec) (hl : ∀ r ∈ l, r.ok) (hto : ∀ r ∈ l, r.to.length ≤ 35184372088832) (Q : Ex → Slots → LH → Prop) (h0 : (checkP l).2 = 0 → ∀ σ, Has σ [(0, .c (.sl 8 (recs l)))] → Q .norm σ [])
    (h1 : (checkP l).2 ≠ 0 → ∀ σ, Slots.get σ 2 = .c .nilsl → Slots.get σ 3 = .c (.int .i64 (checkP l).1) → Slots.get σ 4 = .c (.int .i64 (checkP l).2) → Q .ret σ []) : rnC Try.prog ep1 Q [(0, .c (.sl 8 (recs l)))] [] := by
  unfold ep1
  simp only [go_sem, ↓reduceIte, Nat.reduceEqDiff, Nat.reduceMul, Nat.reduceAdd, Nat.reduceDiv, Nat.reduceSub, Nat.reduceLT, Nat.reduceLeDiff, Int.reduceLE, Int.reduceLT, Int.reduceToNat, Int.reduceEq]
  refine callK_2 _ _ (fun _ => cw30 l hl hto) (by simp only [go_sem, ↓reduceIte, Nat.reduceEqDiff, Nat.reduceMul, Nat.reduceAdd, Nat.reduceDiv, Nat.reduceSub, Nat.reduceLT, Nat.reduceLeDiff, Int.reduceLE, Int.reduceLT, Int.reduceToNat, Int.reduceEq]) rfl rfl ?_
  simp only [go_sem, ↓reduceIte, Nat.reduceEqDiff, Nat.reduceMul, Nat.reduceAdd, Nat.reduceDiv, Nat.reduceSub, Nat.reduceLT, Nat.reduceLeDiff, Int.reduceLE, Int.reduceLT, Int.reduceToNat, Int.reduceEq]
  repeat (refine ⟨by (first | omega | (intro h1 h2; exact ⟨h1, h2⟩) | (intro h1; omega) | (intro h1; exact h1) | trivial), ?_⟩)
  exact ⟨fun h => h1 h _ rfl rfl rfl, fun h => h0 h _ ⟨rfl, trivial⟩⟩
def rs32 : List (Nat × Option Nat × Mode) := [(2, none, .move 1), (3, none, .plain), (4, none, .plain)]
theorem cw32 (l : List Rec) (hl : ∀ r ∈ l, r.ok) (hwt : ∀ r ∈ l, r.wok) (hto : ∀ r ∈ l, r.to.length ≤ 35184372088832) :
    CW Try.prog 32 [.cv (.sl 8 (recs l))] ⟨[.own 1 (bys (packF l).1), .cv (.int .i64 (packF l).2.1), .cv (.int .i64 (packF l).2.2)], []⟩ := by
  refine CW.hand (c := codeOf Try.f32) rs32 [] Try.func32 (by kernel_rfl) (by decide +kernel) (by decide +kernel) (by show 1 ≤ Try.f32.ntmps; decide +kernel) (by show 1 ≤ 8; decide) trivial (fun C ι S a w hn hO' hR => ?_)
  have hR : R C ι S [(0, .c (.sl 8 (recs l)))] [] a w := hR
  have fin : ∀ σ H, OwnAt 1 (bys (packF l).1) (Slots.get σ 2) H → Slots.get σ 3 = .c (.int .i64 (packF l).2.1) → Slots.get σ 4 = .c (.int .i64 (packF l).2.2) → retW σ H rs32 [.cv (.sl 8 (recs l))] [] ⟨[.own 1 (bys (packF l).1), .cv (.int .i64 (packF l).2.1), .cv (.int .i64 (packF l).2.2)], []⟩ := fun σ H x y z => retO3 rfl x y z
  rw [split32]
  refine wp_seq (code_sound (C := C) ep0 _ (by rw [hn]; exact chk_ep0) hR (rn_ok _ (fun _ _ _ h => h) (wp0 l (fun e σ H => e = .norm ∧ Has σ [(0, .c (.sl 8 (recs l)))] ∧ H = []) fun σ h => ⟨rfl, h, rfl⟩)) fun e ι1 S1 σ1 H1 a1 w1 hq h1 => ?_)
  obtain ⟨rfl, hs1, rfl⟩ := hq
  have h1 := R.weak h1 hs1
  refine wp_seq (code_sound (C := C) ep1 _ (by rw [hn]; exact chk_ep1) h1 (rn_ok _ (fun _ _ _ h => h) (wp1 l hl hto (fun e σ H => (e = .norm ∧ (checkP l).2 = 0 ∧ Has σ [(0, .c (.sl 8 (recs l)))] ∧ H = []) ∨ (e = .ret ∧ OwnAt 1 (bys (packF l).1) (Slots.get σ 2) H ∧ Slots.get σ 3 = .c (.int .i64 (packF l).2.1) ∧ Slots.get σ 4 = .c (.int .i64 (packF l).2.2))) (fun h0 σ h => .inl ⟨rfl, h0, h, rfl⟩) (fun h0 σ x y z => .inr ⟨rfl, ?_⟩))) fun e ι2 S2 σ2 H2 a2 w2 hq h2 => ?_)
  · have e : packF l = ([], checkP l) := by unfold packF; rw [if_pos h0]
    rw [e]
    exact ⟨.inl ⟨x, rfl⟩, y, z⟩
  rcases hq with ⟨rfl, h0, hs2, rfl⟩ | ⟨rfl, x, y, z⟩
  rotate_left
  · exact ⟨.inr rfl, ι2, S2, σ2, H2, h2, fin _ _ x y z⟩
  have h2 := R.weak h2 hs2
  have hr := check_right hl h0
  have hn4 : l.length ≤ 4096 := ((check_zero hl).1 h0).1
  have e : packF l = if 262144 < (packB l).length then ([], 0, 2) else (packB l, 0, 0) := by unfold packF; rw [if_neg (by simpa using h0)]
  refine wp_seq (wp_region_list ?_)
  show wpList Try.prog (z4 Try.f32) _ (z4 Try.f32).toList a2 w2
  rw [z4_l]
  refine beg32 h2 hn fun ι3 a3 w3 h3 => ?_
  have h3 := R.weak (l := [(22, .osl 576000 0 4), (0, .c (.sl 8 (recs l)))]) h3 ⟨rfl, rfl, trivial⟩
  refine ops_sound (C := C) _ q32c (by rw [hn]; exact z4_c) h3 (rn_ok (.reg q32c) (fun _ _ _ h => h) (w32c l (fun e σ H => e = .norm ∧ Has σ [(0, .c (.sl 8 (recs l))), (7, .osl 576128 0 5)] ∧ H = h32) fun σ h => ⟨rfl, h, rfl⟩)) fun ι4 S4 σ4 H4 a4 w4 hq h4 => ?_
  obtain ⟨_, hs4, rfl⟩ := hq
  have h4 := R.weak h4 hs4
  refine code_sound (C := C) ep2 _ (by rw [hn]; exact chk_ep2) h4 (rn_ok _ (fun _ _ _ h => h) (w32r l hn4 hr hwt (fun e σ H => e = .ret ∧ OwnAt 1 (bys (packF l).1) (Slots.get σ 2) H ∧ Slots.get σ 3 = .c (.int .i64 (packF l).2.1) ∧ Slots.get σ 4 = .c (.int .i64 (packF l).2.2)) fun σ H x y z => ⟨rfl, by rw [e]; exact x, by rw [e]; exact y, by rw [e]; exact z⟩)) fun e' ι5 S5 σ5 H5 a5 w5 hq h5 => ?_
  obtain ⟨rfl, x, y, z⟩ := hq
  exact ⟨.inr rfl, ι5, S5, σ5, H5, h5, fin _ _ x y z⟩
end Go.Proofs.Ytcpdnpaedkcebaa.V
namespace Go.Proofs.Ytcpdnpaedkcebaa.V
open Go Go.RowKit
set_option linter.unusedVariables false
set_option linter.unusedSimpArgs false
set_option maxRecDepth 100000
theorem famK_ne8 {k : Int} (h : ¬famK k = 0) : parts8 k ≠ [] := fun hp => by
  have := parts8_nil hp
  apply h
  unfold famK
  (repeat' split) <;> omega
end Go.Proofs.Ytcpdnpaedkcebaa.V
namespace Go.Proofs.Ytcpdnpaedkcebaa.V
open Go Go.RowKit
set_option linter.unusedVariables false
set_option linter.unusedSimpArgs false
set_option maxRecDepth 100000
def l37_0 : IC := (.seq (.reg [⟨(some 67), 0, none, .bin .lss (.t 66) (.t 65)⟩]) (.seq (.cond (.t 67) .skip (.exit 0)) (.seq (.block 1 (.seq (.reg [⟨(some 68), 0, none, .mv (.t 12)⟩,
  ⟨(some 69), 0, none, .mv (.t 7)⟩,
  ⟨(some 70), 0, none, .nck (.t 69)⟩,
  ⟨(some 71), 0, none, .fa (.t 70) 1⟩,
  ⟨(some 72), 0, none, .ld (.t 71) none⟩,
  ⟨(some 73), 22, none, .bsl 1 [(.t 72)]⟩,
  ⟨(some 74), 23, none, .app (.t 68) (.t 73) 1 8 false⟩,
  ⟨(some 12), 0, none, .mv (.t 74)⟩]) (.seq (.reg [⟨(some 75), 0, none, .mv (.t 7)⟩,
  ⟨(some 76), 24, none, .call (.c (.fn 65)) [((.t 75), .ptr [none, none, none])]⟩,
  ⟨(some 13), 34, none, .alloc [(.int .i64 0), (.int .i64 0), (.int .i64 0), (.int .i64 0), .nilsl, (.str ⟨#[]⟩), (.str ⟨#[]⟩), (.flt 0)]⟩,
  ⟨none, 0, none, .st (.t 13) (.t 76) (some 8)⟩]) (.seq (.seq (.reg [⟨(some 77), 0, none, .mv (.t 7)⟩,
  ⟨(some 78), 0, none, .nck (.t 77)⟩,
  ⟨(some 79), 0, none, .fa (.t 78) 2⟩,
  ⟨(some 80), 0, none, .ld (.t 79) none⟩,
  ⟨(some 81), 0, none, .bin .neq (.t 80) (.c (.int .i64 0))⟩]) (.cond (.t 81) (.seq (.draw (.take 0 ⟨(some 82), 0, none, .mv (.t 7)⟩ (.take 1 ⟨(some 83), 0, none, .nck (.t 82)⟩ (.take 2 ⟨(some 84), 0, none, .fa (.t 83) 1⟩ (.take 3 ⟨(some 85), 0, none, .ld (.t 84) none⟩ (.take 4 ⟨(some 86), 0, none, .mv (.t 7)⟩ (.take 5 ⟨(some 87), 0, none, .nck (.t 86)⟩ (.take 6 ⟨(some 88), 0, none, .fa (.t 87) 2⟩ (.take 7 ⟨(some 89), 0, none, .ld (.t 88) none⟩ (.take 8 ⟨(some 2), 0, none, .mv (.c .nilsl)⟩ (.take 9 ⟨(some 3), 0, none, .mv (.t 85)⟩ (.take 10 ⟨(some 4), 0, none, .mv (.t 89)⟩ .done)))))))))))) .ret) .skip)) (.reg [⟨(some 90), 0, none, .mv (.t 11)⟩,
  ⟨(some 91), 0, none, .ld (.t 13) (some 8)⟩,
  ⟨(some 92), 35, none, .bsl 8 [(.t 91)]⟩,
  ⟨(some 93), 36, none, .app (.t 90) (.t 92) 8 96 false⟩,
  ⟨(some 11), 0, none, .mv (.t 93)⟩]))))) (.reg [⟨(some 94), 0, none, .bin .add (.t 66) (.c (.int .i64 1))⟩,
  ⟨(some 66), 0, none, .mv (.t 94)⟩]))))
def n37_0 : Norm := ⟨[(7, .plain), (11, .own 8 1000011), (12, .own 1 1000012), (65, .plain), (66, .plain)], [(704, [.plain, .plain, .plain])]⟩
def b37 : IC := (.seq (.reg [⟨(some 2), 0, none, .mv (.c .nilsl)⟩,
  ⟨(some 3), 0, none, .mv (.c (.int .i64 0))⟩,
  ⟨(some 4), 0, none, .mv (.c (.int .i64 0))⟩]) (.seq (.seq (.reg [⟨(some 17), 0, none, .mv (.t 0)⟩,
  ⟨(some 18), 1, none, .call (.c (.fn 63)) [((.t 17), .view 1)]⟩,
  ⟨(some 16), 0, none, .mv (.t 18)⟩,
  ⟨(some 19), 0, none, .ext (.t 16) 0⟩,
  ⟨(some 20), 0, none, .ext (.t 16) 1⟩,
  ⟨(some 5), 0, none, .mv (.t 19)⟩,
  ⟨(some 6), 0, none, .mv (.t 20)⟩]) (.seq (.reg [⟨(some 21), 0, none, .mv (.t 6)⟩,
  ⟨(some 22), 0, none, .bin .neq (.t 21) (.c (.int .i64 0))⟩]) (.cond (.t 22) (.seq (.reg [⟨(some 23), 0, none, .mv (.t 5)⟩,
  ⟨(some 24), 0, none, .mv (.t 6)⟩,
  ⟨(some 2), 0, none, .mv (.c .nilsl)⟩,
  ⟨(some 3), 0, none, .mv (.t 23)⟩,
  ⟨(some 4), 0, none, .mv (.t 24)⟩]) .ret) .skip))) (.seq (.reg [⟨(some 25), 0, none, .mv (.t 0)⟩,
  ⟨(some 26), 0, none, .mv (.t 0)⟩,
  ⟨(some 27), 0, none, .len false (.t 26)⟩,
  ⟨(some 28), 0, none, .bin .sub (.t 27) (.c (.int .i64 4))⟩,
  ⟨(some 29), 0, none, .mv (.t 0)⟩,
  ⟨(some 30), 0, none, .len false (.t 29)⟩,
  ⟨(some 31), 0, none, .bin .sub (.t 30) (.c (.int .i64 4))⟩,
  ⟨(some 32), 0, none, .slc (.t 25) none (some (.t 28)) (some (.t 31)) 1⟩,
  ⟨(some 33), 0, none, .bld [.nilsl, (.int .i64 0), (.int .i64 0)] [(0, (.t 32)), (1, (.c (.int .i64 5)))]⟩,
  ⟨(some 34), 11, none, .box (.t 33)⟩,
  ⟨(some 7), 0, none, .mv (.t 34)⟩]) (.seq (.draw (.take 0 ⟨(some 36), 0, none, .mv (.t 7)⟩ (.take 1 ⟨(some 37), 0, none, .nck (.t 36)⟩ (.take 2 ⟨(some 38), 0, none, .fa (.t 37) 0⟩ (.take 3 ⟨(some 39), 0, none, .ld (.t 38) none⟩ (.take 4 ⟨(some 40), 0, none, .mv (.t 7)⟩ (.take 5 ⟨(some 41), 0, none, .nck (.t 40)⟩ (.take 6 ⟨(some 42), 0, none, .fa (.t 41) 1⟩ (.take 7 ⟨(some 43), 0, none, .ld (.t 42) none⟩ (.br 8 ⟨(some 44), 12, none, .call (.c (.fn 64)) [((.t 39), .view 1), ((.t 43), .plain)]⟩ [false, true, true, true, false, true, true, true] (.take 9 ⟨(some 35), 0, none, .mv (.t 44)⟩ (.take 10 ⟨(some 45), 0, none, .ext (.t 35) 0⟩ (.take 11 ⟨(some 46), 0, none, .ext (.t 35) 1⟩ (.take 12 ⟨(some 47), 0, none, .ext (.t 35) 2⟩ (.take 13 ⟨(some 8), 0, none, .mv (.t 45)⟩ (.take 14 ⟨(some 9), 0, none, .mv (.t 46)⟩ (.take 15 ⟨(some 10), 0, none, .mv (.t 47)⟩ .done))))))) .no)))))))))) (.seq (.seq (.reg [⟨(some 48), 0, none, .mv (.t 10)⟩,
  ⟨(some 49), 0, none, .bin .neq (.t 48) (.c (.int .i64 0))⟩]) (.cond (.t 49) (.seq (.draw (.take 0 ⟨(some 50), 0, none, .mv (.t 7)⟩ (.take 1 ⟨(some 51), 0, none, .nck (.t 50)⟩ (.take 2 ⟨(some 52), 0, none, .fa (.t 51) 1⟩ (.take 3 ⟨(some 53), 0, none, .ld (.t 52) none⟩ (.take 4 ⟨(some 54), 0, none, .mv (.t 10)⟩ (.take 5 ⟨(some 2), 0, none, .mv (.c .nilsl)⟩ (.take 6 ⟨(some 3), 0, none, .mv (.t 53)⟩ (.take 7 ⟨(some 4), 0, none, .mv (.t 54)⟩ .done))))))))) .ret) .skip)) (.seq (.seq (.reg [⟨(some 55), 0, none, .mv (.t 8)⟩,
  ⟨(some 56), 0, none, .bin .gtr (.t 55) (.c (.int .i64 4096))⟩]) (.cond (.t 56) (.seq (.draw (.take 0 ⟨(some 57), 0, none, .mv (.t 7)⟩ (.take 1 ⟨(some 58), 0, none, .nck (.t 57)⟩ (.take 2 ⟨(some 59), 0, none, .fa (.t 58) 1⟩ (.take 3 ⟨(some 60), 0, none, .ld (.t 59) none⟩ (.take 4 ⟨(some 2), 0, none, .mv (.c .nilsl)⟩ (.take 5 ⟨(some 3), 0, none, .mv (.t 60)⟩ (.take 6 ⟨(some 4), 0, none, .mv (.c (.int .i64 3))⟩ .done)))))))) .ret) .skip)) (.seq (.reg [⟨(some 61), 0, none, .mv (.t 7)⟩,
  ⟨(some 62), 0, none, .mv (.t 9)⟩,
  ⟨(some 63), 0, none, .nck (.t 61)⟩,
  ⟨(some 64), 0, none, .fa (.t 63) 1⟩,
  ⟨none, 0, none, .st (.t 64) (.t 62) none⟩]) (.seq (.reg [⟨(some 11), 0, none, .mv (.c .nilsl)⟩]) (.seq (.reg [⟨(some 12), 0, none, .mv (.c .nilsl)⟩]) (.seq (.seq (.reg [⟨(some 65), 0, none, .mv (.t 8)⟩,
  ⟨(some 66), 0, none, .mv (.c (.int .i64 0))⟩]) (.block 0 (.loop n37_0 l37_0))) (.seq (.seq (.draw (.take 0 ⟨(some 95), 0, none, .mv (.t 7)⟩ (.take 1 ⟨(some 96), 0, none, .nck (.t 95)⟩ (.take 2 ⟨(some 97), 0, none, .fa (.t 96) 1⟩ (.take 3 ⟨(some 98), 0, none, .ld (.t 97) none⟩ (.take 4 ⟨(some 99), 0, none, .mv (.t 7)⟩ (.take 5 ⟨(some 100), 0, none, .nck (.t 99)⟩ (.take 6 ⟨(some 101), 0, none, .fa (.t 100) 0⟩ (.take 7 ⟨(some 102), 0, none, .ld (.t 101) none⟩ (.take 8 ⟨(some 103), 0, none, .len false (.t 102)⟩ (.take 9 ⟨(some 104), 0, none, .bin .lss (.t 98) (.t 103)⟩ .done))))))))))) (.cond (.t 104) (.seq (.draw (.take 0 ⟨(some 105), 0, none, .mv (.t 7)⟩ (.take 1 ⟨(some 106), 0, none, .nck (.t 105)⟩ (.take 2 ⟨(some 107), 0, none, .fa (.t 106) 1⟩ (.take 3 ⟨(some 108), 0, none, .ld (.t 107) none⟩ (.take 4 ⟨(some 2), 0, none, .mv (.c .nilsl)⟩ (.take 5 ⟨(some 3), 0, none, .mv (.t 108)⟩ (.take 6 ⟨(some 4), 0, none, .mv (.c (.int .i64 14))⟩ .done)))))))) .ret) .skip)) (.seq (.seq (.reg [⟨(some 110), 0, none, .mv (.t 11)⟩,
  ⟨(some 111), 37, none, .call (.c (.fn 30)) [((.t 110), .view 8)]⟩,
  ⟨(some 109), 0, none, .mv (.t 111)⟩,
  ⟨(some 112), 0, none, .ext (.t 109) 0⟩,
  ⟨(some 113), 0, none, .ext (.t 109) 1⟩,
  ⟨(some 14), 0, none, .mv (.t 112)⟩,
  ⟨(some 15), 0, none, .mv (.t 113)⟩]) (.seq (.reg [⟨(some 114), 0, none, .mv (.t 15)⟩,
  ⟨(some 115), 0, none, .bin .neq (.t 114) (.c (.int .i64 0))⟩]) (.cond (.t 115) (.seq (.draw (.take 0 ⟨(some 116), 0, none, .mv (.t 12)⟩ (.take 1 ⟨(some 117), 0, none, .mv (.t 14)⟩ (.take 2 ⟨(some 118), 0, none, .ia (.t 116) (.t 117) 1⟩ (.take 3 ⟨(some 119), 0, none, .ld (.t 118) none⟩ (.take 4 ⟨(some 120), 0, none, .mv (.t 15)⟩ (.take 5 ⟨(some 2), 0, none, .mv (.c .nilsl)⟩ (.take 6 ⟨(some 3), 0, none, .mv (.t 119)⟩ (.take 7 ⟨(some 4), 0, none, .mv (.t 120)⟩ .done))))))))) .ret) .skip))) (.seq (.reg [⟨(some 121), 0, none, .mv (.t 11)⟩,
  ⟨(some 2), 0, none, .mv (.t 121)⟩,
  ⟨(some 3), 0, none, .mv (.c (.int .i64 0))⟩,
  ⟨(some 4), 0, none, .mv (.c (.int .i64 0))⟩]) .ret)))))))))))))
def rs37 : List (Nat × Option Nat × Mode) := [(2, none, .move 8), (3, none, .plain), (4, none, .plain)]
theorem chk37 : chkC Try.prog Try.f37.ntmps b37 (Try.f37.body.getD .skip) = true := by decide +kernel
theorem top37 {args : List Arg} {out : Out} (ha : args.length.ble Try.f37.ntmps = true) (h8 : args.length.ble 8 = true) (mss : List (List (Option Nat))) (hb : backOK args out.back)
    (hw : rnC Try.prog b37 (topQ rs37 args mss out) (slotsOf (argsAV argBase args 0) 0) (argsOb argBase args 0)) : CW Try.prog 37 args out :=
  CW.of Try.func37 rs37 mss (by decide +kernel) (by decide +kernel) (by decide +kernel) ha h8 chk37 hb hw
theorem readsF_spec (b : List UInt8) {k : Int} : ∀ (l : List (Nat × Nat)) (s : Int × Int) (r : Rec), (∀ p ∈ l, p ∈ parts8 k) → (0 ≤ s.1 ∧ s.1 ≤ b.length) → r.fine →
    (0 ≤ (readsF b l s r).1.1 ∧ (readsF b l s r).1.1 ≤ b.length) ∧ (readsF b l s r).2.to.length ≤ r.to.length + 24 * l.length ∧ (readsF b l s r).2.fine
  | [], s, r, _, hs, hr => ⟨hs, Nat.le_add_right _ _, hr⟩
  | p :: l, s, r, hl, hs, hr => by
    rw [readsF]
    obtain ⟨q1, q2, q3⟩ := readF_spec (hl p List.mem_cons_self) b s r hs hr
    obtain ⟨t1, t2, t3⟩ := readsF_spec b l _ _ (fun x hx => hl x (List.mem_cons_of_mem _ hx)) q1 q3
    refine ⟨t1, ?_, t3⟩
    simp only [List.length_cons]
    omega
def recR (b : List UInt8) (a : Int) : Rec := (readsF b (parts8 (kindAt b a)) (a + 1, 0) (zeroR (kindAt b a))).2
theorem kind_fine (b : List UInt8) (a : Int) : (zeroR (kindAt b a)).fine := by
  have := (b.getD a.toNat 0).toNat_lt
  refine ⟨⟨by unfold kindAt zeroR i64ok; simp only; omega, by simp [zeroR, i64ok], by simp [zeroR, i64ok], by simp [zeroR, i64ok], by simp [zeroR]⟩, by simp [zeroR]⟩
theorem recS_spec (b : List UInt8) (a : Int) (hs : 0 ≤ a ∧ a ≤ b.length) : (0 ≤ (recS b a).1 ∧ (recS b a).1 ≤ b.length) ∧ (recR b a).to.length ≤ 96 ∧ (recR b a).fine ∧ ((recS b a).2 = 0 → recC b a = (recR b a).cv) := by
  unfold recS recC
  by_cases h : a = b.length
  · have hx := readsF_spec b (k := kindAt b a) (parts8 (kindAt b a)) (a, 0) (zeroR (kindAt b a)) (fun _ h => h) hs (kind_fine b a)
    rw [if_pos h]
    have h0 : kindAt b a = 0 := by
      unfold kindAt
      rw [List.getD_eq_getElem?_getD, List.getElem?_eq_none (by omega)]; rfl
    have hp : parts8 (kindAt b a) = [] := by rw [h0]; decide
    refine ⟨hs, ?_, ?_, fun h => by simp at h⟩
    · unfold recR; rw [hp]; simp [readsF, zeroR]
    · unfold recR; rw [hp]; exact kind_fine b a
  · rw [if_neg h, if_neg h]
    have h4 : (parts8 (kindAt b a)).length ≤ 4 := by unfold parts8; (repeat' split) <;> simp
    obtain ⟨t1, t2, t3⟩ := readsF_spec b (k := kindAt b a) (parts8 (kindAt b a)) (a + 1, 0) (zeroR (kindAt b a)) (fun _ h => h) (by simp only; omega) (kind_fine b a)
    have t2' : (recR b a).to.length ≤ 96 := by
      have : (zeroR (kindAt b a)).to.length = 0 := rfl
      unfold recR; omega
    by_cases hp : parts8 (kindAt b a) = []
    · rw [if_pos hp, if_pos hp]
      exact ⟨hs, t2', t3, fun h => by simp at h⟩
    · rw [if_neg hp, if_neg hp]
      exact ⟨t1, t2', t3, fun _ => rfl⟩
def unpGo (c : List UInt8) : Nat → Int → List Int → List Rec → Except (Int × Int) (Int × List Int × List Rec)
  | 0, a, ps, l => .ok (a, ps, l)
  | k + 1, a, ps, l => if (recS c a).2 ≠ 0 then .error (recS c a) else unpGo c k (recS c a).1 (ps ++ [a]) (l ++ [recR c a])
def unpackF (b : List UInt8) : List Rec × Int × Int :=
  if (headF b).2 ≠ 0 then ([], headF b) else
  if (rdU (b.take (b.length - 4)) 5).2.2 ≠ 0 then ([], 5, (rdU (b.take (b.length - 4)) 5).2.2) else
  if 4096 < (rdU (b.take (b.length - 4)) 5).1 then ([], 5, 3) else
  match unpGo (b.take (b.length - 4)) (rdU (b.take (b.length - 4)) 5).1.toNat (rdU (b.take (b.length - 4)) 5).2.1 [] [] with
  | .error x => ([], x)
  | .ok (a, ps, l) =>
    if a < ((b.length - 4 : Nat) : Int) then ([], a, 14) else
    if (checkP l).2 ≠ 0 then ([], ps.getD (checkP l).1.toNat 0, (checkP l).2) else (l, 0, 0)
theorem head_len {b : List UInt8} (h : (headF b).2 = 0) : 10 ≤ b.length ∧ b.length ≤ 262144 := by
  unfold headF at h
  split at h
  · simp at h
  · split at h
    · simp at h
    · omega
theorem rights_at : ∀ (l : List Rec) (i : Int) (x : Int × Int), rightsP l i = some x → i ≤ x.1 ∧ x.1 < i + l.length
  | r :: l, i, x, h => by
    rw [rightsP] at h
    split at h
    · cases h; simp only [List.length_cons]; omega
    · have := rights_at l _ x h; simp only [List.length_cons]; omega
theorem twice_at : ∀ (l p : List Rec) (i x : Int), twiceP p l i = some x → i ≤ x ∧ x < i + l.length
  | r :: l, p, i, x, h => by
    rw [twiceP] at h
    split at h
    · cases h; simp only [List.length_cons]; omega
    · have := twice_at l _ _ x h; simp only [List.length_cons]; omega
theorem check_at {l : List Rec} (hl : l.length ≤ 4096) (h : (checkP l).2 ≠ 0) : 0 ≤ (checkP l).1 ∧ (checkP l).1 < l.length := by
  unfold checkP at h ⊢
  rw [if_neg (by omega)] at h ⊢
  cases hr : rightsP l 0 with
  | some x => have := rights_at l 0 x hr; simp only; omega
  | none =>
    rw [hr] at h
    cases ht : twiceP [] l 0 with
    | none => rw [ht] at h; simp at h
    | some x => have := twice_at l [] 0 x ht; simp only; omega
theorem w37 (b : List UInt8) (hb : b.length < 1000000000000000) (Q : Ex → Slots → LH → Prop) (hQ : ∀ σ H, OwnAt 8 (recs (unpackF b).1) (Slots.get σ 2) H → Slots.get σ 3 = .c (.int .i64 ((unpackF b).2.1)) → Slots.get σ 4 = .c (.int .i64 ((unpackF b).2.2)) → Q .ret σ H) : rnC Try.prog b37 Q [(0, .c (.sl 1 (bys b)))] [] := by
  unfold b37
  simp only [go_sem, ↓reduceIte, Nat.reduceEqDiff, Nat.reduceMul, Nat.reduceAdd, Nat.reduceDiv, Nat.reduceSub, Nat.reduceLT, Nat.reduceLeDiff, Int.reduceLE, Int.reduceLT, Int.reduceToNat, Int.reduceEq]
  refine callK_2 _ _ (fun _ => cw63 b hb) (by simp only [go_sem, ↓reduceIte, Nat.reduceEqDiff, Nat.reduceMul, Nat.reduceAdd, Nat.reduceDiv, Nat.reduceSub, Nat.reduceLT, Nat.reduceLeDiff, Int.reduceLE, Int.reduceLT, Int.reduceToNat, Int.reduceEq]) rfl rfl ?_
  simp only [go_sem, ↓reduceIte, Nat.reduceEqDiff, Nat.reduceMul, Nat.reduceAdd, Nat.reduceDiv, Nat.reduceSub, Nat.reduceLT, Nat.reduceLeDiff, Int.reduceLE, Int.reduceLT, Int.reduceToNat, Int.reduceEq]
  repeat (refine ⟨by (first | omega | (intro h1 h2; exact ⟨h1, h2⟩) | (intro h1; omega) | (intro h1; exact h1) | trivial), ?_⟩)
  unfold unpackF at hQ
  refine ⟨fun h => ?_, fun h => ?_⟩
  · rw [if_pos h] at hQ
    exact hQ _ _ (.inl ⟨rfl, rfl⟩) rfl rfl
  rw [if_neg (by simpa using h)] at hQ
  obtain ⟨l10, lmax⟩ := head_len h
  have e1 : IntKind.i64.wrap ((b.length : Int) - 4) = ((b.length - 4 : Nat) : Int) := by rw [wrap_i64]; omega
  have e4 : List.take (b.length - 4 - 0) (bys b) = bys (b.take (b.length - 4)) := by rw [Nat.sub_zero, ← List.drop_zero (l := bys b), bys_cut]; rfl
  have hcl : (b.take (b.length - 4)).length = b.length - 4 := by rw [List.length_take]; omega
  rw [e1, Int.toNat_natCast, e4]
  refine ⟨by omega, ?_⟩
  generalize hcc : b.take (b.length - 4) = c at *
  refine callK_3 _ _ _ (fun _ => cw64 c 5 (by omega) (by decide)) (by simp only [go_sem, ↓reduceIte, Nat.reduceEqDiff, Nat.reduceMul, Nat.reduceAdd, Nat.reduceDiv, Nat.reduceSub, Nat.reduceLT, Nat.reduceLeDiff, Int.reduceLE, Int.reduceLT, Int.reduceToNat, Int.reduceEq]) rfl rfl ?_
  simp only [go_sem, ↓reduceIte, Nat.reduceEqDiff, Nat.reduceMul, Nat.reduceAdd, Nat.reduceDiv, Nat.reduceSub, Nat.reduceLT, Nat.reduceLeDiff, Int.reduceLE, Int.reduceLT, Int.reduceToNat, Int.reduceEq]
  repeat (refine ⟨by (first | omega | (intro h1 h2; exact ⟨h1, h2⟩) | (intro h1; omega) | (intro h1; exact h1) | trivial), ?_⟩)
  have hsp := rdU_spec c 5
  refine ⟨fun h2 => ?_, fun h2 => ?_⟩
  · rw [if_pos h2] at hQ
    exact hQ _ _ (.inl ⟨rfl, rfl⟩) rfl rfl
  rw [if_neg (by simpa using h2)] at hQ
  have hsp := hsp.1 h2
  refine ⟨fun h3 => ?_, fun h3 => ?_⟩
  · rw [if_pos h3] at hQ
    exact hQ _ _ (.inl ⟨rfl, rfl⟩) rfl rfl
  rw [if_neg (by omega)] at hQ
  clear h e1 e4
  generalize rdU c 5 = U at hsp hQ h2 h3
  obtain ⟨n, p0, e⟩ := U
  simp only at hsp hQ h2 h3
  obtain ⟨N, rfl⟩ := Int.eq_ofNat_of_zero_le hsp.2.1
  rw [Int.toNat_natCast] at hQ
  refine loopR.by (α := Nat × Int × List Int × List Rec) (fun p => [(7, .ref 704 0), (11, .osl 1000011 0 p.2.2.2.length), (12, .osl 1000012 0 p.2.2.1.length), (65, .c (.int .i64 N)), (66, .c (.int .i64 p.1))])
    (fun p => [(1000011, .row 8 (recs p.2.2.2)), (1000012, .row 1 (p.2.2.1.map (CV.int .i64))), (704, .obj [.c (.sl 1 (bys c)), .c (.int .i64 p.2.1), .c (.int .i64 0)])])
    (fun p => N - p.1) (fun p => p.1 ≤ N ∧ (0 ≤ p.2.1 ∧ p.2.1 ≤ c.length) ∧ p.2.2.1.length = p.1 ∧ p.2.2.2.length = p.1 ∧ (∀ r ∈ p.2.2.2, r.ok ∧ r.to.length ≤ 96) ∧ unpGo c (N - p.1) p.2.1 p.2.2.1 p.2.2.2 = unpGo c N p0 [] []) (0, p0, [], [])
    ⟨Nat.zero_le _, by simp only; omega, rfl, rfl, by simp, rfl⟩ ?_ ?_
  · intro Y hY
    simp only [go_sem, ↓reduceIte, Nat.reduceEqDiff, Nat.reduceMul, Nat.reduceAdd, Nat.reduceDiv, Nat.reduceSub, Nat.reduceLT, Nat.reduceLeDiff, Int.reduceLE, Int.reduceLT, Int.reduceToNat, Int.reduceEq, n37_0]
    exact ⟨by simp, hY⟩
  intro p hp Y hY
  obtain ⟨k, a, ps, l⟩ := p
  obtain ⟨hk, ha, hps, hl, hall, heq⟩ := hp
  simp only at hk ha hps hl hall heq
  unfold l37_0
  have hcut1 : List.take ps.length (ps.map (CV.int .i64)) = ps.map (CV.int .i64) := List.take_of_length_le (by simp)
  have hcut2 : List.take l.length (recs l) = recs l := List.take_of_length_le (by rw [recs_len]; omega)
  rcases Nat.lt_or_ge k N with hkN | hkN
  · rw [show N - k = (N - (k + 1)) + 1 by omega, unpGo] at heq
    have c65 := cw65 c a (by omega) ha
    obtain ⟨x1, x2, x3, x4⟩ := recS_spec c a ha
    have hsh : recC c a = zeroN ∨ recC c a = (recR c a).cv := by
      unfold recC
      split
      · exact .inl rfl
      · split
        · exact .inl rfl
        · exact .inr rfl
    generalize hS : recS c a = S at c65 x1 x4 heq
    obtain ⟨a', e'⟩ := S
    simp only at c65 x1 x4 heq
    simp only [go_sem, ↓reduceIte, Nat.reduceEqDiff, Nat.reduceMul, Nat.reduceAdd, Nat.reduceDiv, Nat.reduceSub, Nat.reduceLT, Nat.reduceLeDiff, Int.reduceLE, Int.reduceLT, Int.reduceToNat, Int.reduceEq, n37_0]
    refine ⟨fun _ => ⟨by omega, ?_⟩, fun h => by omega⟩
    by_cases he : e' = 0
    · subst he
      rw [if_neg (by simp)] at heq
      rw [x4 rfl] at c65
      refine callK_i ⟨[.cv (.agg [.int .i64 (recR c a).kind, .int .i64 (recR c a).lo, .int .i64 (recR c a).hi, .int .i64 (recR c a).n, .sl 1 (runes (recR c a).to), .str (recR c a).name, .str (recR c a).other, .flt (recR c a).weight])], [[.cv (.sl 1 (bys c)), .cv (.int .i64 a'), .cv (.int .i64 0)]]⟩ (fun _ => c65) ⟨by simp only [go_sem, ↓reduceIte, Nat.reduceEqDiff, Nat.reduceMul, Nat.reduceAdd, Nat.reduceDiv, Nat.reduceSub, Nat.reduceLT, Nat.reduceLeDiff, Int.reduceLE, Int.reduceLT, Int.reduceToNat, Int.reduceEq], .inl rfl, ⟨by simp only [go_sem, ↓reduceIte, Nat.reduceEqDiff, Nat.reduceMul, Nat.reduceAdd, Nat.reduceDiv, Nat.reduceSub, Nat.reduceLT, Nat.reduceLeDiff, Int.reduceLE, Int.reduceLT, Int.reduceToNat, Int.reduceEq], by simp, by simp, by simp⟩, ?_⟩
      simp only [go_sem, ↓reduceIte, Nat.reduceEqDiff, Nat.reduceMul, Nat.reduceAdd, Nat.reduceDiv, Nat.reduceSub, Nat.reduceLT, Nat.reduceLeDiff, Int.reduceLE, Int.reduceLT, Int.reduceToNat, Int.reduceEq, hcut1, hcut2]
      have hz : recs (l ++ [recR c a]) = recs l ++ [(recR c a).cv] := by simp [recs]
      have := hY (k + 1, a', ps ++ [a], l ++ [recR c a]) ⟨by simp only; omega, by simp only; exact x1, by simp only [List.length_append, List.length_singleton]; omega, by simp only [List.length_append, List.length_singleton]; omega, fun r hr => by
        rcases List.mem_append.1 hr with hr | hr
        · exact hall r hr
        · rw [List.mem_singleton.1 hr]; exact ⟨x3.1, x2⟩, heq⟩ (by simp only; omega)
      simp only [hz, List.length_append, List.length_singleton, List.map_append, List.map_cons, List.map_nil] at this
      rw [succ64 hkN (by omega)]
      exact ⟨by omega, by simp, this⟩
    · rw [if_pos he] at heq
      rw [← heq] at hQ
      rcases hsh with hsh | hsh
      · rw [hsh, zeroN] at c65
        refine callK_i ⟨[.cv (.agg [.int .i64 0, .int .i64 0, .int .i64 0, .int .i64 0, .nilsl, .str ⟨#[]⟩, .str ⟨#[]⟩, .flt 0])], [[.cv (.sl 1 (bys c)), .cv (.int .i64 a'), .cv (.int .i64 e')]]⟩ (fun _ => c65) ⟨by simp only [go_sem, ↓reduceIte, Nat.reduceEqDiff, Nat.reduceMul, Nat.reduceAdd, Nat.reduceDiv, Nat.reduceSub, Nat.reduceLT, Nat.reduceLeDiff, Int.reduceLE, Int.reduceLT, Int.reduceToNat, Int.reduceEq], .inl rfl, ⟨by simp only [go_sem, ↓reduceIte, Nat.reduceEqDiff, Nat.reduceMul, Nat.reduceAdd, Nat.reduceDiv, Nat.reduceSub, Nat.reduceLT, Nat.reduceLeDiff, Int.reduceLE, Int.reduceLT, Int.reduceToNat, Int.reduceEq], by simp, by simp, by simp⟩, ?_⟩
        simp only [go_sem, ↓reduceIte, Nat.reduceEqDiff, Nat.reduceMul, Nat.reduceAdd, Nat.reduceDiv, Nat.reduceSub, Nat.reduceLT, Nat.reduceLeDiff, Int.reduceLE, Int.reduceLT, Int.reduceToNat, Int.reduceEq, hcut1, hcut2]
        exact ⟨fun _ => hQ _ _ (.inl ⟨rfl, rfl⟩) rfl rfl, fun h => absurd h he⟩
      · rw [hsh] at c65
        refine callK_i ⟨[.cv (.agg [.int .i64 (recR c a).kind, .int .i64 (recR c a).lo, .int .i64 (recR c a).hi, .int .i64 (recR c a).n, .sl 1 (runes (recR c a).to), .str (recR c a).name, .str (recR c a).other, .flt (recR c a).weight])], [[.cv (.sl 1 (bys c)), .cv (.int .i64 a'), .cv (.int .i64 e')]]⟩ (fun _ => c65) ⟨by simp only [go_sem, ↓reduceIte, Nat.reduceEqDiff, Nat.reduceMul, Nat.reduceAdd, Nat.reduceDiv, Nat.reduceSub, Nat.reduceLT, Nat.reduceLeDiff, Int.reduceLE, Int.reduceLT, Int.reduceToNat, Int.reduceEq], .inl rfl, ⟨by simp only [go_sem, ↓reduceIte, Nat.reduceEqDiff, Nat.reduceMul, Nat.reduceAdd, Nat.reduceDiv, Nat.reduceSub, Nat.reduceLT, Nat.reduceLeDiff, Int.reduceLE, Int.reduceLT, Int.reduceToNat, Int.reduceEq], by simp, by simp, by simp⟩, ?_⟩
        simp only [go_sem, ↓reduceIte, Nat.reduceEqDiff, Nat.reduceMul, Nat.reduceAdd, Nat.reduceDiv, Nat.reduceSub, Nat.reduceLT, Nat.reduceLeDiff, Int.reduceLE, Int.reduceLT, Int.reduceToNat, Int.reduceEq, hcut1, hcut2]
        exact ⟨fun _ => hQ _ _ (.inl ⟨rfl, rfl⟩) rfl rfl, fun h => absurd h he⟩
  · have : k = N := by omega
    subst this
    rw [Nat.sub_self, unpGo] at heq
    rw [← heq] at hQ
    simp only at hQ
    rw [hcl] at ha
    have c30 := cw30 l (fun r hr => (hall r hr).1) (fun r hr => Nat.le_trans (hall r hr).2 (by decide))
    simp only [go_sem, ↓reduceIte, Nat.reduceEqDiff, Nat.reduceMul, Nat.reduceAdd, Nat.reduceDiv, Nat.reduceSub, Nat.reduceLT, Nat.reduceLeDiff, Int.reduceLE, Int.reduceLT, Int.reduceToNat, Int.reduceEq, n37_0, hcut2, hcl]
    refine ⟨fun h => by omega, fun _ => ⟨fun h5 => ?_, fun h5 => ?_⟩⟩
    · rw [if_pos h5] at hQ
      exact hQ _ _ (.inl ⟨rfl, rfl⟩) rfl rfl
    rw [if_neg (by omega)] at hQ
    refine callK_i ⟨[.cv (.int .i64 (checkP l).1), .cv (.int .i64 (checkP l).2)], []⟩ (fun _ => c30) ⟨by simp only [go_sem, ↓reduceIte, Nat.reduceEqDiff, Nat.reduceMul, Nat.reduceAdd, Nat.reduceDiv, Nat.reduceSub, Nat.reduceLT, Nat.reduceLeDiff, Int.reduceLE, Int.reduceLT, Int.reduceToNat, Int.reduceEq], .inr ⟨by simp [OC.scalar, CV.scalar], by simp⟩, ⟨by simp only [go_sem, ↓reduceIte, Nat.reduceEqDiff, Nat.reduceMul, Nat.reduceAdd, Nat.reduceDiv, Nat.reduceSub, Nat.reduceLT, Nat.reduceLeDiff, Int.reduceLE, Int.reduceLT, Int.reduceToNat, Int.reduceEq], by simp, by simp, by simp⟩, ?_⟩
    simp only [go_sem, ↓reduceIte, Nat.reduceEqDiff, Nat.reduceMul, Nat.reduceAdd, Nat.reduceDiv, Nat.reduceSub, Nat.reduceLT, Nat.reduceLeDiff, Int.reduceLE, Int.reduceLT, Int.reduceToNat, Int.reduceEq]
    refine ⟨fun h6 => ?_, fun h6 => ?_⟩
    · rw [if_pos h6] at hQ
      have hat := check_at (by omega) h6
      have ep : (ps.map (CV.int .i64)).getD (checkP l).1.toNat .undef = .int .i64 (ps.getD (checkP l).1.toNat 0) := by
        have : (checkP l).1.toNat < ps.length := by omega
        simp [List.getD_eq_getElem?_getD, this]
      rw [ep]
      exact ⟨by omega, hQ _ _ (.inl ⟨rfl, rfl⟩) rfl rfl⟩
    · rw [if_neg (by simpa using h6)] at hQ
      exact hQ _ _ (own_at rfl (by rw [recs_len]) rfl) rfl rfl
theorem cw37 (b : List UInt8) (hb : b.length < 1000000000000000) : CW Try.prog 37 [.cv (.sl 1 (bys b))] ⟨[.own 8 (recs (unpackF b).1), .cv (.int .i64 ((unpackF b).2.1)), .cv (.int .i64 ((unpackF b).2.2))], []⟩ :=
  top37 rfl rfl [] trivial (w37 b hb _ fun σ H h h' h'' => retO3 rfl h h' h'')
end Go.Proofs.Ytcpdnpaedkcebaa.V
namespace Go.Proofs.Ytcpdnpaedkcebaa.V
open Go Go.RowKit
set_option linter.unusedVariables false
set_option linter.unusedSimpArgs false
set_option maxRecDepth 100000
def Eqv (X Y : (Int × Int) × Rec) : Prop := X.1 = Y.1 ∧ (Y.1.2 = 0 → X.2 = Y.2)
theorem Eqv.refl (X : (Int × Int) × Rec) : Eqv X X := ⟨rfl, fun _ => rfl⟩
end Go.Proofs.Ytcpdnpaedkcebaa.V
namespace Go.Proofs.Ytcpdnpaedkcebaa.V
open Go Go.RowKit
set_option linter.unusedVariables false
set_option linter.unusedSimpArgs false
set_option maxRecDepth 100000
theorem bys_getD {b : List UInt8} {k : Nat} (h : k < b.length) : (bys b).getD k .undef = .int .u8 ((b.getD k 0).toNat : Int) := by
  rw [bys_at h, List.getD_eq_getElem?_getD, List.getElem?_eq_getElem h]; rfl
end Go.Proofs.Ytcpdnpaedkcebaa.V
namespace Go.Proofs.Ytcpdnpaedkcebaa.V
open Go Go.RowKit
set_option linter.unusedVariables false
set_option linter.unusedSimpArgs false
set_option maxRecDepth 100000
def y4 (f : Func) : Array Oper := opsOf (seqA (seqB (seqB (codeOf f))))
section
variable {C : Ctx} {ι ι' : Nat → Loc} {S S' : Nat → Prop} {σ σ' : Slots} {H H' : LH} {a a' : Act} {w w' : World} {m : Nat} {g : Value → Value}
structure Seen (C : Ctx) (ι : Nat → Loc) (S : Nat → Prop) (H : LH) (w : World) (m : Nat) (p : List (Int × Int)) : Prop where
  ex : ∃ g, MapAt w m isP (.int .i64 0) g ∧ ∀ a b, g (.agg #[.int .i32 a, .int .i32 b]) = .int .i64 (if (a, b) ∈ p then 1 else 0)
  hm : Hid ι S H w m
  hC : C.w0.heap.size ≤ m
theorem Seen.step {p : List (Int × Int)} (h : Seen C ι S H w m p) {D : Ctx} (h' : R (D.now w ι S H) ι' S' σ' H' a' w') : Seen C ι' S' H' w' m p := by
  obtain ⟨⟨g, hg, hp⟩, hm, hC⟩ := h
  have := hm.step h'
  exact ⟨⟨g, hg.same this.2, hp⟩, this.1, hC⟩
theorem Seen.nil {p : List (Int × Int)} (h : Seen C ι S H w m p) : Seen C ι S [] w m p := ⟨h.ex, h.hm.nil, h.hC⟩
structure Iter (C : Ctx) (ι : Nat → Loc) (S : Nat → Prop) (H : LH) (w : World) (it : Nat) (s : ByteArray) (pos : Nat) : Prop where
  hv : w.heap[it]? = some (.stringIter s pos)
  hm : Hid ι S H w it
  hC : C.w0.heap.size ≤ it
theorem Iter.step {it : Nat} {s : ByteArray} {pos : Nat} (h : Iter C ι S H w it s pos) {D : Ctx} (h' : R (D.now w ι S H) ι' S' σ' H' a' w') : Iter C ι' S' H' w' it s pos := by
  obtain ⟨hv, hm, hC⟩ := h
  have := hm.step h'
  exact ⟨this.2.trans hv, this.1, hC⟩
end
end Go.Proofs.Ytcpdnpaedkcebaa.V
namespace Go.Proofs.Ytcpdnpaedkcebaa.V
open Go Go.RowKit
set_option linter.unusedVariables false
set_option linter.unusedSimpArgs false
set_option maxRecDepth 100000
def b46 : IC := (.seq (.reg [⟨(some 2), 1, none, .box (.t 0)⟩,
  ⟨(some 3), 2, none, .box (.t 1)⟩,
  ⟨(some 4), 0, none, .mv (.c (.bool false))⟩]) (.seq (.draw (.take 0 ⟨(some 5), 0, none, .fa (.t 2) 0⟩ (.take 1 ⟨(some 6), 0, none, .ld (.t 5) none⟩ (.take 2 ⟨(some 7), 0, none, .fa (.t 3) 0⟩ (.take 3 ⟨(some 8), 0, none, .ld (.t 7) none⟩ (.take 4 ⟨(some 9), 0, none, .bin .eql (.t 6) (.t 8)⟩ (.take 5 ⟨(some 10), 0, none, .mv (.t 9)⟩ (.take 6 ⟨(some 11), 0, (some (10, true)), .fa (.t 2) 1⟩ (.take 7 ⟨(some 12), 0, (some (10, true)), .ld (.t 11) none⟩ (.take 8 ⟨(some 13), 0, (some (10, true)), .fa (.t 3) 1⟩ (.take 9 ⟨(some 14), 0, (some (10, true)), .ld (.t 13) none⟩ (.take 10 ⟨(some 15), 0, (some (10, true)), .bin .eql (.t 12) (.t 14)⟩ (.take 11 ⟨(some 16), 0, none, .pick (.t 10) (.t 15) (.c (.bool false))⟩ (.take 12 ⟨(some 17), 0, none, .mv (.t 16)⟩ (.take 13 ⟨(some 18), 0, (some (17, true)), .fa (.t 2) 2⟩ (.take 14 ⟨(some 19), 0, (some (17, true)), .ld (.t 18) none⟩ (.take 15 ⟨(some 20), 0, (some (17, true)), .fa (.t 3) 2⟩ (.take 16 ⟨(some 21), 0, (some (17, true)), .ld (.t 20) none⟩ (.take 17 ⟨(some 22), 0, (some (17, true)), .bin .eql (.t 19) (.t 21)⟩ (.take 18 ⟨(some 23), 0, none, .pick (.t 17) (.t 22) (.c (.bool false))⟩ (.take 19 ⟨(some 24), 0, none, .mv (.t 23)⟩ (.take 20 ⟨(some 25), 0, (some (24, true)), .fa (.t 2) 3⟩ (.take 21 ⟨(some 26), 0, (some (24, true)), .ld (.t 25) none⟩ (.take 22 ⟨(some 27), 0, (some (24, true)), .fa (.t 3) 3⟩ (.take 23 ⟨(some 28), 0, (some (24, true)), .ld (.t 27) none⟩ (.take 24 ⟨(some 29), 0, (some (24, true)), .bin .eql (.t 26) (.t 28)⟩ (.take 25 ⟨(some 30), 0, none, .pick (.t 24) (.t 29) (.c (.bool false))⟩ (.take 26 ⟨(some 31), 0, none, .mv (.t 30)⟩ (.take 27 ⟨(some 32), 0, (some (31, true)), .fa (.t 2) 4⟩ (.take 28 ⟨(some 33), 0, (some (31, true)), .ld (.t 32) none⟩ (.take 29 ⟨(some 34), 0, (some (31, true)), .fa (.t 3) 4⟩ (.take 30 ⟨(some 35), 0, (some (31, true)), .ld (.t 34) none⟩ (.br 31 ⟨(some 36), 3, (some (31, true)), .call (.c (.fn 20)) [((.t 33), .view 1), ((.t 35), .view 1)]⟩ [false, true, false, true, false, true, true, true, true, true, true, true, true, true, true, true, true, true, true, true, true, true, true, true, true, true, true, true, true, true, true] (.take 32 ⟨(some 37), 0, none, .pick (.t 31) (.t 36) (.c (.bool false))⟩ (.take 33 ⟨(some 38), 0, none, .mv (.t 37)⟩ (.take 34 ⟨(some 39), 0, (some (38, true)), .fa (.t 2) 5⟩ (.take 35 ⟨(some 40), 0, (some (38, true)), .ld (.t 39) none⟩ (.take 36 ⟨(some 41), 0, (some (38, true)), .fa (.t 3) 5⟩ (.take 37 ⟨(some 42), 0, (some (38, true)), .ld (.t 41) none⟩ (.take 38 ⟨(some 43), 0, (some (38, true)), .bin .eql (.t 40) (.t 42)⟩ (.take 39 ⟨(some 44), 0, none, .pick (.t 38) (.t 43) (.c (.bool false))⟩ (.take 40 ⟨(some 45), 0, none, .mv (.t 44)⟩ (.take 41 ⟨(some 46), 0, (some (45, true)), .fa (.t 2) 6⟩ (.take 42 ⟨(some 47), 0, (some (45, true)), .ld (.t 46) none⟩ (.take 43 ⟨(some 48), 0, (some (45, true)), .fa (.t 3) 6⟩ (.take 44 ⟨(some 49), 0, (some (45, true)), .ld (.t 48) none⟩ (.take 45 ⟨(some 50), 0, (some (45, true)), .bin .eql (.t 47) (.t 49)⟩ (.take 46 ⟨(some 51), 0, none, .pick (.t 45) (.t 50) (.c (.bool false))⟩ (.take 47 ⟨(some 52), 0, none, .mv (.t 51)⟩ (.take 48 ⟨(some 53), 0, (some (52, true)), .fa (.t 2) 7⟩ (.take 49 ⟨(some 54), 0, (some (52, true)), .ld (.t 53) none⟩ (.take 51 ⟨(some 56), 0, (some (52, true)), .fa (.t 3) 7⟩ (.take 52 ⟨(some 57), 0, (some (52, true)), .ld (.t 56) none⟩ (.br 50 ⟨(some 55), 13, (some (52, true)), .call (.c (.fn 69)) [((.t 54), .plain)]⟩ [true, true, false, true, false, true, true, true, true, true, true, true, true, true, true, true, true, true, true, true, true, true, true, true, true, true, true, true, true, true, true, true, true, true, true, true, true, true, true, true, true, true, true, true, true, true, true, true] (.br 53 ⟨(some 58), 23, (some (52, true)), .call (.c (.fn 69)) [((.t 57), .plain)]⟩ [false, true, true, true, true, true, true, true, true, true, true, true, true, true, true, true, true, true, true, true, true, true, true, true, true, true, true, true, true, true, true, true, true, true, true, true, true, true, true, true, true, true, true, true, true, true] (.take 54 ⟨(some 59), 0, (some (52, true)), .bin .eql (.t 55) (.t 58)⟩ (.take 55 ⟨(some 60), 0, none, .pick (.t 52) (.t 59) (.c (.bool false))⟩ (.take 56 ⟨(some 4), 0, none, .mv (.t 60)⟩ .done))) .no) .no))))))))))))))))))))) .no))))))))))))))))))))))))))))))))) .ret))
def rs46 : List (Nat × Option Nat × Mode) := [(4, none, .plain)]
theorem chk46 : chkC Try.prog Try.f46.ntmps b46 (Try.f46.body.getD .skip) = true := by decide +kernel
theorem top46 {args : List Arg} {out : Out} (ha : args.length.ble Try.f46.ntmps = true) (h8 : args.length.ble 8 = true) (mss : List (List (Option Nat))) (hb : backOK args out.back)
    (hw : rnC Try.prog b46 (topQ rs46 args mss out) (slotsOf (argsAV argBase args 0) 0) (argsOb argBase args 0)) : CW Try.prog 46 args out :=
  CW.of Try.func46 rs46 mss (by decide +kernel) (by decide +kernel) (by decide +kernel) ha h8 chk46 hb hw
def l23_0 : IC := (.seq (.seq (.reg [⟨(some 11), 0, none, .mv (.t 5)⟩,
  ⟨(some 12), 0, none, .mv (.t 0)⟩,
  ⟨(some 13), 0, none, .len false (.t 12)⟩,
  ⟨(some 14), 0, none, .bin .lss (.t 11) (.t 13)⟩]) (.cond (.t 14) .skip (.exit 0))) (.seq (.block 1 (.seq (.draw (.take 0 ⟨(some 17), 0, none, .mv (.t 0)⟩ (.take 1 ⟨(some 18), 0, none, .mv (.t 5)⟩ (.take 2 ⟨(some 19), 0, none, .ia (.t 17) (.t 18) 8⟩ (.take 3 ⟨(some 20), 0, none, .ld (.t 19) (some 8)⟩ (.take 4 ⟨(some 21), 0, none, .mv (.t 1)⟩ (.take 5 ⟨(some 22), 0, none, .mv (.t 5)⟩ (.take 6 ⟨(some 23), 0, none, .ia (.t 21) (.t 22) 8⟩ (.take 7 ⟨(some 24), 0, none, .ld (.t 23) (some 8)⟩ (.br 8 ⟨(some 25), 1, none, .call (.c (.fn 46)) [((.t 20), .plain), ((.t 24), .plain)]⟩ [false, true, true, true, false, true, true, true] (.take 9 ⟨(some 26), 0, none, .not (.t 25)⟩ .done) .no)))))))))) (.cond (.t 26) (.seq (.reg [⟨(some 4), 0, none, .mv (.c (.bool false))⟩]) .ret) .skip))) (.reg [⟨(some 15), 0, none, .mv (.t 5)⟩,
  ⟨(some 16), 0, none, .bin .add (.t 15) (.c (.int .i64 1))⟩,
  ⟨(some 5), 0, none, .mv (.t 16)⟩])))
def n23_0 : Norm := ⟨[(0, .plain), (1, .plain), (5, .plain)], []⟩
def b23 : IC := (.seq (.reg [⟨(some 4), 0, none, .mv (.c (.bool false))⟩]) (.seq (.seq (.reg [⟨(some 6), 0, none, .mv (.t 0)⟩,
  ⟨(some 7), 0, none, .len false (.t 6)⟩,
  ⟨(some 8), 0, none, .mv (.t 1)⟩,
  ⟨(some 9), 0, none, .len false (.t 8)⟩,
  ⟨(some 10), 0, none, .bin .neq (.t 7) (.t 9)⟩]) (.cond (.t 10) (.seq (.reg [⟨(some 4), 0, none, .mv (.c (.bool false))⟩]) .ret) .skip)) (.seq (.seq (.reg [⟨(some 5), 0, none, .mv (.c (.int .i64 0))⟩]) (.block 0 (.loop n23_0 l23_0))) (.seq (.reg [⟨(some 4), 0, none, .mv (.c (.bool true))⟩]) .ret))))
def rs23 : List (Nat × Option Nat × Mode) := [(4, none, .plain)]
theorem chk23 : chkC Try.prog Try.f23.ntmps b23 (Try.f23.body.getD .skip) = true := by decide +kernel
theorem top23 {args : List Arg} {out : Out} (ha : args.length.ble Try.f23.ntmps = true) (h8 : args.length.ble 8 = true) (mss : List (List (Option Nat))) (hb : backOK args out.back)
    (hw : rnC Try.prog b23 (topQ rs23 args mss out) (slotsOf (argsAV argBase args 0) 0) (argsOb argBase args 0)) : CW Try.prog 23 args out :=
  CW.of Try.func23 rs23 mss (by decide +kernel) (by decide +kernel) (by decide +kernel) ha h8 chk23 hb hw
def l29_0 : IC := (.seq (.seq (.reg [⟨(some 7), 0, none, .mv (.t 4)⟩,
  ⟨(some 8), 0, none, .mv (.t 0)⟩,
  ⟨(some 9), 0, none, .len false (.t 8)⟩,
  ⟨(some 10), 0, none, .bin .lss (.t 7) (.t 9)⟩]) (.cond (.t 10) .skip (.exit 0))) (.seq (.block 1 (.seq (.reg [⟨(some 13), 0, none, .mv (.t 0)⟩,
  ⟨(some 14), 0, none, .mv (.t 4)⟩,
  ⟨(some 15), 0, none, .ia (.t 13) (.t 14) 8⟩,
  ⟨(some 16), 0, none, .ld (.t 15) (some 8)⟩,
  ⟨(some 5), 1, none, .alloc [(.int .i64 0), (.int .i64 0), (.int .i64 0), (.int .i64 0), .nilsl, (.str ⟨#[]⟩), (.str ⟨#[]⟩), (.flt 0)]⟩,
  ⟨none, 0, none, .st (.t 5) (.t 16) (some 8)⟩]) (.seq (.reg [⟨(some 6), 0, none, .mv (.c .nilsl)⟩]) (.seq (.reg [⟨(some 17), 0, none, .mv (.t 6)⟩,
  ⟨(some 18), 0, none, .mv (.t 0)⟩,
  ⟨(some 19), 0, none, .mv (.t 4)⟩,
  ⟨(some 20), 0, none, .ia (.t 18) (.t 19) 8⟩,
  ⟨(some 21), 0, none, .fa (.t 20) 4⟩,
  ⟨(some 22), 0, none, .ld (.t 21) none⟩,
  ⟨(some 23), 2, none, .app (.t 17) (.t 22) 1 4 false⟩,
  ⟨(some 24), 0, none, .fa (.t 5) 4⟩,
  ⟨none, 0, none, .st (.t 24) (.t 23) none⟩]) (.pubc 5 4 (.reg [⟨(some 25), 0, none, .mv (.t 3)⟩,
  ⟨(some 26), 0, none, .ld (.t 5) (some 8)⟩,
  ⟨(some 27), 3, none, .bsl 8 [(.t 26)]⟩,
  ⟨(some 28), 4, none, .app (.t 25) (.t 27) 8 96 false⟩,
  ⟨(some 3), 0, none, .mv (.t 28)⟩])))))) (.reg [⟨(some 11), 0, none, .mv (.t 4)⟩,
  ⟨(some 12), 0, none, .bin .add (.t 11) (.c (.int .i64 1))⟩,
  ⟨(some 4), 0, none, .mv (.t 12)⟩])))
def n29_0 : Norm := ⟨[(0, .plain), (3, .own 8 1000003), (4, .plain)], []⟩
def b29 : IC := (.seq (.reg [⟨(some 2), 0, none, .mv (.c .nilsl)⟩]) (.seq (.reg [⟨(some 3), 0, none, .mv (.c .nilsl)⟩]) (.seq (.seq (.reg [⟨(some 4), 0, none, .mv (.c (.int .i64 0))⟩]) (.block 0 (.loop n29_0 l29_0))) (.seq (.reg [⟨(some 29), 0, none, .mv (.t 3)⟩,
  ⟨(some 2), 0, none, .mv (.t 29)⟩]) .ret))))
def rs29 : List (Nat × Option Nat × Mode) := [(2, none, .move 8)]
theorem chk29 : chkC Try.prog Try.f29.ntmps b29 (Try.f29.body.getD .skip) = true := by decide +kernel
theorem top29 {args : List Arg} {out : Out} (ha : args.length.ble Try.f29.ntmps = true) (h8 : args.length.ble 8 = true) (mss : List (List (Option Nat))) (hb : backOK args out.back)
    (hw : rnC Try.prog b29 (topQ rs29 args mss out) (slotsOf (argsAV argBase args 0) 0) (argsOb argBase args 0)) : CW Try.prog 29 args out :=
  CW.of Try.func29 rs29 mss (by decide +kernel) (by decide +kernel) (by decide +kernel) ha h8 chk29 hb hw
def sameR (a b : Rec) : Bool :=
  decide (a.kind = b.kind) && decide (a.lo = b.lo) && decide (a.hi = b.hi) && decide (a.n = b.n) && decide (a.to = b.to) && decide (a.name.data.toList = b.name.data.toList) && decide (a.other.data.toList = b.other.data.toList) && decide ((a.weight : Int) = b.weight)
theorem w46 (a b : Rec) (ha : a.to.length < 9223372036854775808) (hb : b.to.length < 9223372036854775808) (Q : Ex → Slots → LH → Prop) (hQ : ∀ σ H, Slots.get σ 4 = .c (.bool (sameR a b)) → Q .ret σ H) : rnC Try.prog b46 Q [(0, .c (Rec.cv a)), (1, .c (Rec.cv b))] [] := by
  unfold b46
  simp only [go_sem, ↓reduceIte, Nat.reduceEqDiff, Nat.reduceMul, Nat.reduceAdd, Nat.reduceDiv, Nat.reduceSub, Nat.reduceLT, Nat.reduceLeDiff, Int.reduceLE, Int.reduceLT, Int.reduceToNat, Int.reduceEq]
  refine callK_1 _ (fun _ => cw20 a.to b.to ha hb) (by simp only [go_sem, ↓reduceIte, Nat.reduceEqDiff, Nat.reduceMul, Nat.reduceAdd, Nat.reduceDiv, Nat.reduceSub, Nat.reduceLT, Nat.reduceLeDiff, Int.reduceLE, Int.reduceLT, Int.reduceToNat, Int.reduceEq]) rfl rfl ?_
  simp only [go_sem, ↓reduceIte, Nat.reduceEqDiff, Nat.reduceMul, Nat.reduceAdd, Nat.reduceDiv, Nat.reduceSub, Nat.reduceLT, Nat.reduceLeDiff, Int.reduceLE, Int.reduceLT, Int.reduceToNat, Int.reduceEq]
  repeat (refine ⟨by (first | omega | (intro h1 h2; exact ⟨h1, h2⟩) | (intro h1; omega) | (intro h1; exact h1) | trivial), ?_⟩)
  refine callK_1 _ (fun _ => cw69 _) (by simp only [go_sem, ↓reduceIte, Nat.reduceEqDiff, Nat.reduceMul, Nat.reduceAdd, Nat.reduceDiv, Nat.reduceSub, Nat.reduceLT, Nat.reduceLeDiff, Int.reduceLE, Int.reduceLT, Int.reduceToNat, Int.reduceEq]) rfl rfl ?_
  simp only [go_sem, ↓reduceIte, Nat.reduceEqDiff, Nat.reduceMul, Nat.reduceAdd, Nat.reduceDiv, Nat.reduceSub, Nat.reduceLT, Nat.reduceLeDiff, Int.reduceLE, Int.reduceLT, Int.reduceToNat, Int.reduceEq]
  repeat (refine ⟨by (first | omega | (intro h1 h2; exact ⟨h1, h2⟩) | (intro h1; omega) | (intro h1; exact h1) | trivial), ?_⟩)
  refine callK_1 _ (fun _ => cw69 _) (by simp only [go_sem, ↓reduceIte, Nat.reduceEqDiff, Nat.reduceMul, Nat.reduceAdd, Nat.reduceDiv, Nat.reduceSub, Nat.reduceLT, Nat.reduceLeDiff, Int.reduceLE, Int.reduceLT, Int.reduceToNat, Int.reduceEq]) rfl rfl ?_
  simp only [go_sem, ↓reduceIte, Nat.reduceEqDiff, Nat.reduceMul, Nat.reduceAdd, Nat.reduceDiv, Nat.reduceSub, Nat.reduceLT, Nat.reduceLeDiff, Int.reduceLE, Int.reduceLT, Int.reduceToNat, Int.reduceEq]
  repeat (refine ⟨by (first | omega | (intro h1 h2; exact ⟨h1, h2⟩) | (intro h1; omega) | (intro h1; exact h1) | trivial), ?_⟩)
  apply hQ
  simp only [go_sem, ↓reduceIte, Nat.reduceEqDiff, Nat.reduceMul, Nat.reduceAdd, Nat.reduceDiv, Nat.reduceSub, Nat.reduceLT, Nat.reduceLeDiff, Int.reduceLE, Int.reduceLT, Int.reduceToNat, Int.reduceEq, sameR]
  rw [Bool.beq_eq_decide_eq]
theorem cw46 (a b : Rec) (ha : a.to.length < 9223372036854775808) (hb : b.to.length < 9223372036854775808) : CW Try.prog 46 [.cv (Rec.cv a), .cv (Rec.cv b)] ⟨[.cv (.bool (sameR a b))], []⟩ :=
  top46 rfl rfl [] trivial (w46 a b ha hb _ fun σ H h => ret1 rfl h)
def sameL : List Rec → List Rec → Bool
  | [], [] => true
  | a :: s, b :: t => sameR a b && sameL s t
  | _, _ => false
theorem sameL_len : ∀ {s t : List Rec}, ¬ s.length = t.length → sameL s t = false
  | [], [], h => absurd rfl h
  | [], _ :: _, _ => rfl
  | _ :: _, [], _ => rfl
  | a :: s, b :: t, h => by
    rw [sameL, sameL_len (by simpa using h), Bool.and_false]
theorem sameR_self (a : Rec) : sameR a a = true := by simp [sameR]
theorem sameL_self : ∀ s : List Rec, sameL s s = true
  | [] => rfl
  | a :: s => by rw [sameL, sameR_self, sameL_self s]; rfl
theorem w23 (a b : List Rec) (ha : a.length < 9223372036854775808) (hb : b.length < 9223372036854775808) (hta : ∀ r ∈ a, r.to.length ≤ 35184372088832) (htb : ∀ r ∈ b, r.to.length ≤ 35184372088832) (Q : Ex → Slots → LH → Prop) (hQ : ∀ σ H, Slots.get σ 4 = .c (.bool (sameL a b)) → Q .ret σ H) : rnC Try.prog b23 Q [(0, .c (.sl 8 (recs a))), (1, .c (.sl 8 (recs b)))] [] := by
  unfold b23
  simp only [go_sem, ↓reduceIte, Nat.reduceEqDiff, Nat.reduceMul, Nat.reduceAdd, Nat.reduceDiv, Nat.reduceSub, Nat.reduceLT, Nat.reduceLeDiff, Int.reduceLE, Int.reduceLT, Int.reduceToNat, Int.reduceEq]
  refine ⟨fun h => ?_, fun h => ?_⟩
  · apply hQ
    all_goals simp only [go_sem, ↓reduceIte, Nat.reduceEqDiff, Nat.reduceMul, Nat.reduceAdd, Nat.reduceDiv, Nat.reduceSub, Nat.reduceLT, Nat.reduceLeDiff, Int.reduceLE, Int.reduceLT, Int.reduceToNat, Int.reduceEq]
    rw [sameL_len (by omega)]
  refine loopR.by (α := Nat) (fun i => [(0, .c (.sl 8 (recs a))), (1, .c (.sl 8 (recs b))), (5, .c (.int .i64 i))]) (fun i => []) (fun i => a.length - i) (fun i => i ≤ a.length ∧ (sameL (a.drop i) (b.drop i) = sameL a b)) 0 ⟨Nat.zero_le _, rfl⟩ ?_ ?_
  · intro Y hY
    simp only [go_sem, ↓reduceIte, Nat.reduceEqDiff, Nat.reduceMul, Nat.reduceAdd, Nat.reduceDiv, Nat.reduceSub, Nat.reduceLT, Nat.reduceLeDiff, Int.reduceLE, Int.reduceLT, Int.reduceToNat, Int.reduceEq, n23_0]
    exact hY
  intro i hk Y hY
  unfold l23_0
  rcases Nat.lt_or_ge i (a.length) with hlt | hge
  · have hlb : i < b.length := by omega
    obtain ⟨r, e, hm, hd⟩ := recs_at hlt
    obtain ⟨r', e', hm', hd'⟩ := recs_at hlb
    have hf := hk.2
    rw [hd, hd', sameL] at hf
    simp only [go_sem, ↓reduceIte, Nat.reduceEqDiff, Nat.reduceMul, Nat.reduceAdd, Nat.reduceDiv, Nat.reduceSub, Nat.reduceLT, Nat.reduceLeDiff, Int.reduceLE, Int.reduceLT, Int.reduceToNat, Int.reduceEq, n23_0, e, e']
    refine ⟨fun _ => ⟨by omega, by omega, ?_⟩, fun h => by omega⟩
    refine callK_1 _ (fun _ => cw46 r r' (by have := hta r hm; omega) (by have := htb r' hm'; omega)) (by simp only [go_sem, ↓reduceIte, Nat.reduceEqDiff, Nat.reduceMul, Nat.reduceAdd, Nat.reduceDiv, Nat.reduceSub, Nat.reduceLT, Nat.reduceLeDiff, Int.reduceLE, Int.reduceLT, Int.reduceToNat, Int.reduceEq]) rfl rfl ?_
    simp only [go_sem, ↓reduceIte, Nat.reduceEqDiff, Nat.reduceMul, Nat.reduceAdd, Nat.reduceDiv, Nat.reduceSub, Nat.reduceLT, Nat.reduceLeDiff, Int.reduceLE, Int.reduceLT, Int.reduceToNat, Int.reduceEq, e, e']
    repeat (refine ⟨by (first | omega | (intro h1 h2; exact ⟨h1, h2⟩) | (intro h1; omega) | (intro h1; exact h1) | trivial), ?_⟩)
    rw [succ64 hlt (by omega)]
    refine ⟨fun h1 => ?_, fun h1 => hY (i + 1) ⟨hlt, ?_⟩ (by omega)⟩
    · rw [h1, Bool.false_and] at hf
      apply hQ
      all_goals simp only [go_sem, ↓reduceIte, Nat.reduceEqDiff, Nat.reduceMul, Nat.reduceAdd, Nat.reduceDiv, Nat.reduceSub, Nat.reduceLT, Nat.reduceLeDiff, Int.reduceLE, Int.reduceLT, Int.reduceToNat, Int.reduceEq, ← hf]
    · rw [h1, Bool.true_and] at hf
      exact hf
  · have hlen : i = a.length := by omega
    have hf := hk.2
    rw [hlen, List.drop_length, show a.length = b.length by omega, List.drop_length] at hf
    simp only [go_sem, ↓reduceIte, Nat.reduceEqDiff, Nat.reduceMul, Nat.reduceAdd, Nat.reduceDiv, Nat.reduceSub, Nat.reduceLT, Nat.reduceLeDiff, Int.reduceLE, Int.reduceLT, Int.reduceToNat, Int.reduceEq, n23_0]
    exact ⟨fun h => by omega, fun _ => hQ _ _ (by rw [← hf]; rfl)⟩
theorem cw23 (a b : List Rec) (ha : a.length < 9223372036854775808) (hb : b.length < 9223372036854775808) (hta : ∀ r ∈ a, r.to.length ≤ 35184372088832) (htb : ∀ r ∈ b, r.to.length ≤ 35184372088832) : CW Try.prog 23 [.cv (.sl 8 (recs a)), .cv (.sl 8 (recs b))] ⟨[.cv (.bool (sameL a b))], []⟩ :=
  top23 rfl rfl [] trivial (w23 a b ha hb hta htb _ fun σ H h => ret1 rfl h)
theorem w29 (l : List Rec) (hn : l.length ≤ 1000000) (hto : ∀ r ∈ l, r.to.length ≤ 35184372088832) (Q : Ex → Slots → LH → Prop) (hQ : ∀ σ H, OwnAt 8 (recs l) (Slots.get σ 2) H → Q .ret σ H) : rnC Try.prog b29 Q [(0, .c (.sl 8 (recs l)))] [] := by
  unfold b29
  simp only [go_sem, ↓reduceIte, Nat.reduceEqDiff, Nat.reduceMul, Nat.reduceAdd, Nat.reduceDiv, Nat.reduceSub, Nat.reduceLT, Nat.reduceLeDiff, Int.reduceLE, Int.reduceLT, Int.reduceToNat, Int.reduceEq]
  refine loopR.by (α := Nat) (fun i => [(0, .c (.sl 8 (recs l))), (3, .osl 1000003 0 i), (4, .c (.int .i64 i))]) (fun i => [(1000003, .row 8 (recs (l.take i)))]) (fun i => l.length - i) (fun i => i ≤ l.length) 0 (Nat.zero_le _) ?_ ?_
  · intro Y hY
    simp only [go_sem, ↓reduceIte, Nat.reduceEqDiff, Nat.reduceMul, Nat.reduceAdd, Nat.reduceDiv, Nat.reduceSub, Nat.reduceLT, Nat.reduceLeDiff, Int.reduceLE, Int.reduceLT, Int.reduceToNat, Int.reduceEq, n29_0]
    exact hY
  intro i hk Y hY
  unfold l29_0
  rcases Nat.lt_or_ge i l.length with hlt | hge
  · obtain ⟨r, e, hm, hd⟩ := recs_at hlt
    have h1 : List.take i (recs (l.take i)) = recs (l.take i) := List.take_of_length_le (by rw [recs_len, List.length_take]; omega)
    have h2 : (recs (l.take i)).length = i := by rw [recs_len, List.length_take]; omega
    have h3 : List.take r.to.length (runes r.to) = runes r.to := List.take_of_length_le (by rw [runes_len]; omega)
    have h4 : recs (l.take (i + 1)) = recs (l.take i) ++ [r.cv] := by
      rw [List.take_add_one, List.getElem?_eq_getElem hlt]
      have h2 : l.drop i = l[i] :: l.drop (i + 1) := List.drop_eq_getElem_cons hlt
      rw [h2] at hd
      injection hd with hd1 hd2
      rw [hd1]; simp [recs]
    simp only [go_sem, ↓reduceIte, Nat.reduceEqDiff, Nat.reduceMul, Nat.reduceAdd, Nat.reduceDiv, Nat.reduceSub, Nat.reduceLT, Nat.reduceLeDiff, Int.reduceLE, Int.reduceLT, Int.reduceToNat, Int.reduceEq, n29_0, e]
    rw [h1, h2, h3, succ64 hlt (by omega)]
    have := hto r hm
    refine ⟨fun _ => ⟨by omega, by omega, by omega, by omega, rfl, ?_⟩, fun h => by omega⟩
    have := hY (i + 1) hlt (by omega)
    rw [h4] at this
    exact this
  · simp only [go_sem, ↓reduceIte, Nat.reduceEqDiff, Nat.reduceMul, Nat.reduceAdd, Nat.reduceDiv, Nat.reduceSub, Nat.reduceLT, Nat.reduceLeDiff, Int.reduceLE, Int.reduceLT, Int.reduceToNat, Int.reduceEq, n29_0]
    refine ⟨fun h => by omega, fun _ => hQ _ _ (own_at rfl (by rw [recs_len]; omega) ?_)⟩
    rw [List.take_of_length_le hge]; rfl
theorem cw29 (l : List Rec) (hn : l.length ≤ 1000000) (hto : ∀ r ∈ l, r.to.length ≤ 35184372088832) : CW Try.prog 29 [.cv (.sl 8 (recs l))] ⟨[.own 8 (recs l)], []⟩ :=
  top29 rfl rfl [] trivial (w29 l hn hto _ fun σ H h => retO rfl h)
def recP (k lo hi n : Int) (to : List Int) : Rec := ⟨k, lo, hi, n, to, ⟨#[]⟩, ⟨#[]⟩, 0⟩
end Go.Proofs.Ytcpdnpaedkcebaa.V
namespace Go.Proofs.Ytcpdnpaedkcebaa.V
open Go Go.RowKit
set_option linter.unusedVariables false
set_option linter.unusedSimpArgs false
set_option maxRecDepth 100000
theorem CW.pubRes3 {P : Program} {f : FuncId} {args : List Arg} {e : Nat} {xs : List CV} {a b : CV} (hu : unlent args = true) (h : CW P f args ⟨[.own e xs, .cv a, .cv b], []⟩) : CW P f args ⟨[.cv (.sl e xs), .cv a, .cv b], []⟩ := by
  obtain ⟨hf, hb, h⟩ := h
  refine ⟨hf, hb, fun ι S w vals hl hav hhr => ?_⟩
  refine (h ι S w vals hl hav hhr).mono fun en w' hp => ?_
  obtain ⟨v, ι', S', rfl, r1, r2, r3, r4, r5, r6, r7⟩ := hp
  have e1 : retOb args ⟨[.own e xs, .cv a, .cv b], []⟩ = [(retBase, .row e xs)] := by
    simp only [retOb, List.map_cons, List.map_nil, OC.arg, argsOb, Arg.ob, argsOb_back argBase args 0 hu, List.append_nil, Nat.mul_zero, Nat.add_zero]
  have e2 : retOb args ⟨[.cv (.sl e xs), .cv a, .cv b], []⟩ = [] := by
    simp only [retOb, List.map_cons, List.map_nil, OC.arg, argsOb, Arg.ob, argsOb_back argBase args 0 hu, List.append_nil]
  rw [e1] at r1 r2 r4
  have hg : LH.get [(retBase, LObj.row e xs)] retBase = some (.row e xs) := by simp [LH.get]
  have hrow := r2.row _ _ _ hg
  have r1 : AVR ι' [(retBase, LObj.row e xs)] S' w' (.tup [.osl retBase 0 xs.length, .c a, .c b]) v := r1
  obtain ⟨us, rfl, hus, hu0⟩ : ∃ us : Array Value, v = .tuple us ∧ us.size = 3 ∧ ∀ i, i < 3 → AVR ι' [(retBase, LObj.row e xs)] S' w' ([AV.osl retBase 0 xs.length, .c a, .c b].getD i (.c .undef)) (us.getD i Go.undef) := by
    cases r1 with | tup _ us h1 h2 => exact ⟨us, rfl, h1, h2⟩
  have f0 : AVR ι' [(retBase, LObj.row e xs)] S' w' (.osl retBase 0 xs.length) (us.getD 0 Go.undef) := hu0 0 (by decide)
  have f1 : AVR ι' [(retBase, LObj.row e xs)] S' w' (.c a) (us.getD 1 Go.undef) := hu0 1 (by decide)
  have f2 : AVR ι' [(retBase, LObj.row e xs)] S' w' (.c b) (us.getD 2 Go.undef) := hu0 2 (by decide)
  have g1 : VR w' S' a (us.getD 1 Go.undef) := by cases f1 with | c _ _ h => exact h
  have g2 : VR w' S' b (us.getD 2 Go.undef) := by cases f2 with | c _ _ h => exact h
  refine ⟨.tuple us, ι', fun b => S' b ∨ ((ι' retBase).isnil = false ∧ b = (ι' retBase).block), rfl, ?_, ?_, r3, ?_, fun b hb => .inl (r5 b hb), fun b hb => ?_, r7⟩
  · rw [e2]
    refine .tup [.c (.sl e xs), .c a, .c b] us hus fun i hi => ?_
    match i, hi with
    | 0, _ => exact .c _ _ (osl_vr hg f0 hrow)
    | 1, _ => exact .c _ _ (g1.mono fun b o x hs hx => ⟨.inl hs, hx⟩)
    | 2, _ => exact .c _ _ (g2.mono fun b o x hs hx => ⟨.inl hs, hx⟩)
  · rw [e2]
    refine ⟨fun id cs h => (by cases h), fun id e xs h => (by cases h), fun id e xs h => (by cases h), fun i j hi => (by cases hi), fun i hi => (by cases hi), fun i hi => (by cases hi), fun b hb => ?_⟩
    rcases hb with hb | ⟨hn, rfl⟩
    · exact r2.slt b hb
    · exact r2.lt retBase (by unfold Owned; rw [hg]; exact hn)
  · intro id hid
    rw [e2] at hid
    cases hid
  · rcases hb with hb | ⟨hn, rfl⟩
    · exact r6 b hb
    · have := r4 retBase (by unfold Owned; rw [hg]; exact hn)
      rcases this with h1 | h1
      · exact .inr (.inl h1)
      · exact .inr (.inr h1)
def b31 : IC := (.seq (.reg [⟨(some 4), 0, none, .mv (.c .nilsl)⟩]) (.seq (.reg [⟨(some 5), 0, none, .mv (.t 0)⟩,
  ⟨(some 6), 0, none, .mv (.t 0)⟩,
  ⟨(some 7), 0, none, .len false (.t 6)⟩,
  ⟨(some 8), 0, none, .mv (.t 1)⟩,
  ⟨(some 9), 0, none, .mn (.t 7) (.t 8)⟩,
  ⟨(some 10), 0, none, .slc (.t 5) none (some (.t 9)) none 8⟩,
  ⟨(some 11), 1, none, .call (.c (.fn 29)) [((.t 10), .view 8)]⟩,
  ⟨(some 4), 0, none, .mv (.t 11)⟩]) .ret))
def rs31 : List (Nat × Option Nat × Mode) := [(4, none, .plain)]
theorem chk31 : chkC Try.prog Try.f31.ntmps b31 (Try.f31.body.getD .skip) = true := by decide +kernel
theorem top31 {args : List Arg} {out : Out} (ha : args.length.ble Try.f31.ntmps = true) (h8 : args.length.ble 8 = true) (mss : List (List (Option Nat))) (hb : backOK args out.back)
    (hw : rnC Try.prog b31 (topQ rs31 args mss out) (slotsOf (argsAV argBase args 0) 0) (argsOb argBase args 0)) : CW Try.prog 31 args out :=
  CW.of Try.func31 rs31 mss (by decide +kernel) (by decide +kernel) (by decide +kernel) ha h8 chk31 hb hw
def b34 : IC := (.seq (.reg [⟨(some 0), 0, none, .mv (.c (.bool false))⟩]) (.seq (.reg [⟨(some 8), 0, none, .bld [(.int .i64 0), (.int .i64 0), (.int .i64 0), (.int .i64 0), (.sl 1 []), (.str ⟨#[]⟩), (.str ⟨#[]⟩), (.flt 0)] [(0, (.c (.int .i64 1))), (1, (.c (.int .i64 97))), (2, (.c (.int .i64 122)))]⟩,
  ⟨(some 9), 1, none, .bsl 8 [(.t 8)]⟩,
  ⟨(some 1), 0, none, .mv (.t 9)⟩]) (.seq (.pub 1 (.reg [⟨(some 11), 0, none, .mv (.t 1)⟩,
  ⟨(some 12), 2, none, .call (.c (.fn 32)) [((.t 11), .view 8)]⟩,
  ⟨(some 10), 0, none, .mv (.t 12)⟩,
  ⟨(some 13), 0, none, .ext (.t 10) 0⟩,
  ⟨(some 14), 0, none, .ext (.t 10) 1⟩,
  ⟨(some 15), 0, none, .ext (.t 10) 2⟩,
  ⟨(some 2), 0, none, .mv (.t 13)⟩,
  ⟨(some 3), 0, none, .mv (.t 14)⟩,
  ⟨(some 4), 0, none, .mv (.t 15)⟩])) (.seq (.reg [⟨(some 17), 0, none, .mv (.t 2)⟩,
  ⟨(some 18), 12, none, .call (.c (.fn 37)) [((.t 17), .view 1)]⟩,
  ⟨(some 16), 0, none, .mv (.t 18)⟩,
  ⟨(some 19), 0, none, .ext (.t 16) 0⟩,
  ⟨(some 20), 0, none, .ext (.t 16) 1⟩,
  ⟨(some 21), 0, none, .ext (.t 16) 2⟩,
  ⟨(some 5), 0, none, .mv (.t 19)⟩,
  ⟨(some 6), 0, none, .mv (.t 20)⟩,
  ⟨(some 7), 0, none, .mv (.t 21)⟩]) (.seq (.reg [⟨(some 22), 0, none, .mv (.t 4)⟩,
  ⟨(some 23), 0, none, .bin .eql (.t 22) (.c (.int .i64 0))⟩,
  ⟨(some 24), 0, none, .mv (.t 23)⟩,
  ⟨(some 25), 0, (some (24, true)), .mv (.t 7)⟩,
  ⟨(some 26), 0, (some (24, true)), .bin .eql (.t 25) (.c (.int .i64 0))⟩,
  ⟨(some 27), 0, none, .pick (.t 24) (.t 26) (.c (.bool false))⟩,
  ⟨(some 28), 0, none, .mv (.t 27)⟩,
  ⟨(some 29), 0, (some (28, true)), .mv (.t 2)⟩,
  ⟨(some 30), 0, (some (28, true)), .len false (.t 29)⟩,
  ⟨(some 31), 0, (some (28, true)), .bin .eql (.t 30) (.c (.int .i64 13))⟩,
  ⟨(some 32), 0, none, .pick (.t 28) (.t 31) (.c (.bool false))⟩,
  ⟨(some 33), 0, none, .mv (.t 32)⟩,
  ⟨(some 34), 0, (some (33, true)), .mv (.t 2)⟩,
  ⟨(some 35), 0, (some (33, true)), .slc (.t 34) none (some (.c (.int .i64 9))) none 1⟩,
  ⟨(some 36), 0, (some (33, true)), .b2s (.t 35)⟩,
  ⟨(some 37), 0, (some (33, true)), .bin .eql (.t 36) (.c (.str ⟨#[101, 110, 100, 111, 1, 1, 1, 97, 25]⟩))⟩,
  ⟨(some 38), 0, none, .pick (.t 33) (.t 37) (.c (.bool false))⟩,
  ⟨(some 39), 0, none, .mv (.t 38)⟩,
  ⟨(some 40), 0, (some (39, true)), .mv (.t 1)⟩,
  ⟨(some 41), 0, (some (39, true)), .mv (.t 5)⟩,
  ⟨(some 42), 22, (some (39, true)), .call (.c (.fn 23)) [((.t 40), .view 8), ((.t 41), .view 8)]⟩,
  ⟨(some 43), 0, none, .pick (.t 39) (.t 42) (.c (.bool false))⟩,
  ⟨(some 0), 0, none, .mv (.t 43)⟩]) .ret)))))
def rs34 : List (Nat × Option Nat × Mode) := [(0, none, .plain)]
theorem chk34 : chkC Try.prog Try.f34.ntmps b34 (Try.f34.body.getD .skip) = true := by decide +kernel
theorem top34 {args : List Arg} {out : Out} (ha : args.length.ble Try.f34.ntmps = true) (h8 : args.length.ble 8 = true) (mss : List (List (Option Nat))) (hb : backOK args out.back)
    (hw : rnC Try.prog b34 (topQ rs34 args mss out) (slotsOf (argsAV argBase args 0) 0) (argsOb argBase args 0)) : CW Try.prog 34 args out :=
  CW.of Try.func34 rs34 mss (by decide +kernel) (by decide +kernel) (by decide +kernel) ha h8 chk34 hb hw
theorem w31 (l : List Rec) (most : Nat) (hm : most ≤ 1000000) (hn : l.length < 9223372036854775808) (hto : ∀ r ∈ l, r.to.length ≤ 35184372088832) (Q : Ex → Slots → LH → Prop) (hQ : ∀ σ H, Slots.get σ 4 = .c (.sl 8 (recs (l.take most))) → Q .ret σ H) : rnC Try.prog b31 Q [(0, .c (.sl 8 (recs l))), (1, .c (.int .i64 most))] [] := by
  unfold b31
  have e : ((if (most : Int) < l.length then (most : Int) else l.length).toNat - 0) = (l.take most).length := by
    rw [List.length_take]; split <;> omega
  have e2 : List.take (l.take most).length (recs l) = recs (l.take most) := by
    rw [List.length_take, recs, recs, ← List.map_take]
    congr 1
    rcases Nat.le_total most l.length with h | h
    · rw [Nat.min_eq_left h]
    · rw [Nat.min_eq_right h, List.take_length, List.take_of_length_le h]
  simp only [go_sem, ↓reduceIte, Nat.reduceEqDiff, Nat.reduceMul, Nat.reduceAdd, Nat.reduceDiv, Nat.reduceSub, Nat.reduceLT, Nat.reduceLeDiff, Int.reduceLE, Int.reduceLT, Int.reduceToNat, Int.reduceEq]
  rw [e, e2]
  refine ⟨⟨by split <;> omega, by omega, by split <;> omega, by omega⟩, ?_⟩
  refine callK_1 _ (fun _ => (cw29 (l.take most) (by rw [List.length_take]; omega) (fun r h => hto r (List.mem_of_mem_take h))).pubRes rfl) (by simp only [go_sem, ↓reduceIte, Nat.reduceEqDiff, Nat.reduceMul, Nat.reduceAdd, Nat.reduceDiv, Nat.reduceSub, Nat.reduceLT, Nat.reduceLeDiff, Int.reduceLE, Int.reduceLT, Int.reduceToNat, Int.reduceEq]) rfl rfl ?_
  simp only [go_sem, ↓reduceIte, Nat.reduceEqDiff, Nat.reduceMul, Nat.reduceAdd, Nat.reduceDiv, Nat.reduceSub, Nat.reduceLT, Nat.reduceLeDiff, Int.reduceLE, Int.reduceLT, Int.reduceToNat, Int.reduceEq]
  repeat (refine ⟨by (first | omega | (intro h1 h2; exact ⟨h1, h2⟩) | (intro h1; omega) | (intro h1; exact h1) | trivial), ?_⟩)
  exact hQ _ _ rfl
theorem cw31 (l : List Rec) (most : Nat) (hm : most ≤ 1000000) (hn : l.length < 9223372036854775808) (hto : ∀ r ∈ l, r.to.length ≤ 35184372088832) : CW Try.prog 31 [.cv (.sl 8 (recs l)), .cv (.int .i64 most)] ⟨[.cv (.sl 8 (recs (l.take most)))], []⟩ :=
  top31 rfl rfl [] trivial (w31 l most hm hn hto _ fun σ H h => ret1 rfl h)
def toldL : List Rec := [recP 1 97 122 0 []]
def toldB : List UInt8 := (packF toldL).1
theorem told_pack : packF toldL = (toldB, 0, 0) := by decide +kernel
deriving instance DecidableEq for Rec
theorem told_unpack : unpackF toldB = (toldL, 0, 0) := by decide +kernel
theorem told_len : toldB.length = 13 := by decide +kernel
theorem told_head : toldB.take 9 = [101, 110, 100, 111, 1, 1, 1, 97, 25] := by decide +kernel
theorem told_ok : (∀ r ∈ toldL, r.ok) ∧ (∀ r ∈ toldL, r.wok) ∧ ∀ r ∈ toldL, r.to.length ≤ 35184372088832 := by
  simp [toldL, recP, Rec.ok, Rec.wok, i64ok]
theorem w34  (Q : Ex → Slots → LH → Prop) (hQ : ∀ σ H, Slots.get σ 0 = .c (.bool true) → Q .ret σ H) : rnC Try.prog b34 Q [] [] := by
  unfold b34
  simp only [go_sem, ↓reduceIte, Nat.reduceEqDiff, Nat.reduceMul, Nat.reduceAdd, Nat.reduceDiv, Nat.reduceSub, Nat.reduceLT, Nat.reduceLeDiff, Int.reduceLE, Int.reduceLT, Int.reduceToNat, Int.reduceEq]
  refine callK_3 _ _ _ (fun _ => (cw32 toldL told_ok.1 told_ok.2.1 told_ok.2.2).pubRes3 rfl) (by simp only [go_sem, ↓reduceIte, Nat.reduceEqDiff, Nat.reduceMul, Nat.reduceAdd, Nat.reduceDiv, Nat.reduceSub, Nat.reduceLT, Nat.reduceLeDiff, Int.reduceLE, Int.reduceLT, Int.reduceToNat, Int.reduceEq]) rfl rfl ?_
  simp only [go_sem, ↓reduceIte, Nat.reduceEqDiff, Nat.reduceMul, Nat.reduceAdd, Nat.reduceDiv, Nat.reduceSub, Nat.reduceLT, Nat.reduceLeDiff, Int.reduceLE, Int.reduceLT, Int.reduceToNat, Int.reduceEq]
  repeat (refine ⟨by (first | omega | (intro h1 h2; exact ⟨h1, h2⟩) | (intro h1; omega) | (intro h1; exact h1) | trivial), ?_⟩)
  rw [told_pack]
  refine callK_3 _ _ _ (fun _ => (cw37 toldB (by decide +kernel)).pubRes3 rfl) (by simp only [go_sem, ↓reduceIte, Nat.reduceEqDiff, Nat.reduceMul, Nat.reduceAdd, Nat.reduceDiv, Nat.reduceSub, Nat.reduceLT, Nat.reduceLeDiff, Int.reduceLE, Int.reduceLT, Int.reduceToNat, Int.reduceEq]) rfl rfl ?_
  simp only [go_sem, ↓reduceIte, Nat.reduceEqDiff, Nat.reduceMul, Nat.reduceAdd, Nat.reduceDiv, Nat.reduceSub, Nat.reduceLT, Nat.reduceLeDiff, Int.reduceLE, Int.reduceLT, Int.reduceToNat, Int.reduceEq]
  repeat (refine ⟨by (first | omega | (intro h1 h2; exact ⟨h1, h2⟩) | (intro h1; omega) | (intro h1; exact h1) | trivial), ?_⟩)
  rw [told_unpack]
  have e9 : List.take 9 (bys toldB) = bys [101, 110, 100, 111, 1, 1, 1, 97, 25] := by
    rw [← List.drop_zero (l := bys toldB), bys_cut, List.drop_zero, told_head]
  have e10 : (mkStr (bys [101, 110, 100, 111, 1, 1, 1, 97, 25])).data.toList = [101, 110, 100, 111, 1, 1, 1, 97, 25] := by decide +kernel
  rw [e9, e10, told_len]
  refine ⟨bys_isU8 _, ?_⟩
  refine callK_1 _ (fun _ => cw23 toldL toldL (by decide) (by decide) told_ok.2.2 told_ok.2.2) (by simp only [go_sem, ↓reduceIte, Nat.reduceEqDiff, Nat.reduceMul, Nat.reduceAdd, Nat.reduceDiv, Nat.reduceSub, Nat.reduceLT, Nat.reduceLeDiff, Int.reduceLE, Int.reduceLT, Int.reduceToNat, Int.reduceEq]) rfl rfl ?_
  simp only [go_sem, ↓reduceIte, Nat.reduceEqDiff, Nat.reduceMul, Nat.reduceAdd, Nat.reduceDiv, Nat.reduceSub, Nat.reduceLT, Nat.reduceLeDiff, Int.reduceLE, Int.reduceLT, Int.reduceToNat, Int.reduceEq]
  repeat (refine ⟨by (first | omega | (intro h1 h2; exact ⟨h1, h2⟩) | (intro h1; omega) | (intro h1; exact h1) | trivial), ?_⟩)
  apply hQ
  simp only [go_sem, ↓reduceIte, Nat.reduceEqDiff, Nat.reduceMul, Nat.reduceAdd, Nat.reduceDiv, Nat.reduceSub, Nat.reduceLT, Nat.reduceLeDiff, Int.reduceLE, Int.reduceLT, Int.reduceToNat, Int.reduceEq, sameL_self]
  rfl
theorem cw34  : CW Try.prog 34 [] ⟨[.cv (.bool true)], []⟩ :=
  top34 rfl rfl [] trivial (w34  _ fun σ H h => ret1 rfl h)
end Go.Proofs.Ytcpdnpaedkcebaa.V
namespace Go.Proofs.Ytcpdnpaedkcebaa.V
open Go Go.RowKit
set_option linter.unusedVariables false
set_option linter.unusedSimpArgs false
def Rd (b : List UInt8) (a e : Int) (w : List UInt8) : Prop := (0 ≤ a ∧ a ≤ b.length) ∧ e = a + w.length ∧ b.drop a.toNat = w ++ b.drop e.toNat
theorem Rd.le {b w : List UInt8} {a e : Int} (h : Rd b a e w) : 0 ≤ e ∧ e ≤ b.length := by
  obtain ⟨h0, h1, h2⟩ := h
  have := congrArg List.length h2
  simp only [List.length_drop, List.length_append] at this
  omega
theorem Rd.of {b w q : List UInt8} {a : Int} (ha : 0 ≤ a ∧ a ≤ b.length) (h : b.drop a.toNat = w ++ q) : Rd b a (a + w.length) w := by
  refine ⟨ha, rfl, ?_⟩
  have : b.drop (a + (w.length : Int)).toNat = q := by
    rw [show (a + (w.length : Int)).toNat = w.length + a.toNat by omega, Nat.add_comm, ← List.drop_drop, h, List.drop_left]
  rw [this, h]
theorem Rd.nil {b : List UInt8} {a : Int} (ha : 0 ≤ a ∧ a ≤ b.length) : Rd b a a [] := ⟨ha, by simp, rfl⟩
theorem Rd.app {b w v : List UInt8} {a m e : Int} (h : Rd b a m w) (h' : Rd b m e v) : Rd b a e (w ++ v) := by
  obtain ⟨h0, h1, h2⟩ := h
  obtain ⟨g0, g1, g2⟩ := h'
  exact ⟨h0, by rw [List.length_append]; omega, by rw [h2, g2, List.append_assoc]⟩
theorem Rd.split {b w v : List UInt8} {a e : Int} (h : Rd b a e (w ++ v)) : Rd b a (a + w.length) w ∧ Rd b (a + w.length) e v := by
  obtain ⟨h0, h1, h2⟩ := h
  have hw : Rd b a (a + w.length) w := Rd.of h0 (q := v ++ b.drop e.toNat) (by rw [h2, List.append_assoc])
  refine ⟨hw, hw.le, by rw [List.length_append] at h1; omega, ?_⟩
  have := hw.2.2
  rw [h2, List.append_assoc] at this
  exact (List.append_cancel_left this).symm
theorem by8_small {m : Nat} (h : m < 256) : (by8 (m : Int)).toNat = m := by have := by8_nat (m : Int); omega
theorem rdGo_write (a : Int) : ∀ (k m n : Nat) (q : List UInt8), k ≤ 8 → m < 128 ^ (k + 1) → (k < 8 → m ≠ 0) →
    rdGo a (k + 1) (uintL m ++ q) n = (((n + m * 128 ^ (8 - k) : Nat) : Int), a + ((8 - k : Nat) : Int) + (uintL m).length, 0) := by
  intro k
  induction k with
  | zero =>
    intro m n q hk hm h0
    have hm' : m < 128 := by simpa using hm
    rw [uintL, dif_pos hm', List.cons_append, rdGo, by8_small (by omega), if_pos hm', if_neg (fun h => h0 (by decide) h.1)]
    rfl
  | succ k ih =>
    intro m n q hk hm h0
    rw [uintL]
    by_cases h : m < 128
    · rw [dif_pos h, List.cons_append, rdGo, by8_small (by omega), if_pos h, if_neg (fun x => h0 (by omega) x.1)]
      rfl
    · have h2 : m / 128 ≠ 0 := by omega
      have h3 : m / 128 < 128 ^ (k + 1) := by rw [Nat.div_lt_iff_lt_mul (by decide)]; exact hm
      rw [dif_neg h, List.cons_append, rdGo, by8_small (by omega), if_neg (by omega), ih (m / 128) _ q (by omega) h3 (fun _ => h2)]
      have e1 : 8 - k = 8 - (k + 1) + 1 := by omega
      have e2 : m % 128 + 128 - 128 = m % 128 := by omega
      have e3 : m % 128 * 128 ^ (8 - (k + 1)) + m / 128 * 128 ^ (8 - k) = m * 128 ^ (8 - (k + 1)) := by
        rw [e1, Nat.pow_succ, Nat.mul_comm (128 ^ (8 - (k + 1))) 128, ← Nat.mul_assoc, ← Nat.add_mul, show m % 128 + m / 128 * 128 = m by omega]
      rw [e2, Nat.add_assoc, e3]
      simp only [Prod.mk.injEq, true_and, and_true, List.length_cons]
      omega
theorem rdU_write {b : List UInt8} {a e n : Int} (h : Rd b a e (uintP n)) (h0 : 0 ≤ n) (hn : n < 9223372036854775808) : rdU b a = (n, e, 0) := by
  obtain ⟨ha, he, hd⟩ := h
  have e1 : uintP n = uintL n.toNat := by unfold uintP; rw [if_neg (by omega)]
  unfold rdU
  rw [if_neg (by omega), hd, e1, rdGo_write a 8 n.toNat 0 _ (by decide) (by simp only [Nat.reduceAdd, Nat.reducePow]; omega) (fun h => by omega), he, e1]
  simp only [Prod.mk.injEq, and_true, Nat.sub_self, Nat.pow_zero, Nat.mul_one, Nat.zero_add]
  omega
theorem strOf_self (s : ByteArray) : strOf s.data.toList = s := by cases s; simp [strOf]
theorem rdT_write {b : List UInt8} {a e most : Int} {s : ByteArray} (h : Rd b a e (textL s)) (hs : (s.size : Int) ≤ most) (hm : most < 9223372036854775808) : rdT b a most = (s, e, 0) := by
  have hl : (s.data.toList.length : Int) = s.size := by simp
  unfold textL at h
  obtain ⟨h1, h2⟩ := h.split
  rw [← uintP_nat] at h1
  have hr := rdU_write h1 (by omega) (by omega)
  rw [uintP_nat] at hr
  unfold rdT
  rw [hr]
  have h3 := h2.2.1
  have h4 := h2.le
  have h5 := h2.1
  rw [if_neg (by have := h.1; omega), if_neg (by simp), if_neg (by simp only; omega), if_neg (by simp only; omega)]
  have h6 : cutL b (a + ((uintL s.size).length : Int)) (s.size : Int) = s.data.toList := by
    unfold cutL
    rw [h2.2.2, List.take_left' (by omega)]
  simp only [h6, strOf_self]
  rw [h3, hl]
theorem leV_float {u : Nat} (hu : u < 18446744073709551616) : leV (floatL u) = u := by
  have s : ∀ m : Nat, (by8 (m : Int)).toNat = m % 256 := fun m => by have := by8_nat (m : Int); omega
  unfold floatL floatI
  simp only [show List.range 8 = [0, 1, 2, 3, 4, 5, 6, 7] from rfl, List.map_cons, List.map_nil, leV]
  simp only [show (0 < 8) = True by simp, show (1 < 8) = True by simp, show (2 < 8) = True by simp, show (3 < 8) = True by simp, show (4 < 8) = True by simp, show (5 < 8) = True by simp, show (6 < 8) = True by simp, show (7 < 8) = True by simp, if_true, s, Nat.reducePow]
  omega
theorem rdF_write {b : List UInt8} {a e : Int} {u : Nat} (h : Rd b a e (floatL u)) (hu : u < 18446744073709551616) : rdF b a = (u, e, 0) := by
  have hl : (floatL u).length = 8 := floatI_len _ _
  have h1 := h.le
  obtain ⟨h2, h3, h4⟩ := h
  unfold rdF
  rw [if_neg (by omega), if_neg (by omega)]
  have : cutL b a 8 = floatL u := by unfold cutL; rw [h4, List.take_left' (by rw [hl]; rfl)]
  rw [this, leV_float hu, h3, hl]; rfl
theorem numP_write {b : List UInt8} {a e n most : Int} (h : Rd b a e (uintP n)) (h0 : 0 ≤ n) (hn : n ≤ most) (hm : most < 9223372036854775808) : numP b most (a, 0) = (n, e, 0) := by
  unfold numP
  rw [rdU_write h h0 (by omega), if_neg (by simp), if_neg (by simp), if_neg (by simp only; omega)]
theorem textP_write {b : List UInt8} {a e : Int} {t : ByteArray} (h : Rd b a e (textL t)) (ht : t.size ≤ 4) : textP b (a, 0) = (t, e, 0) := by
  unfold textP
  rw [rdT_write h (by omega) (by decide), if_neg (by simp)]
  rfl
theorem fltP_write {b : List UInt8} {a e : Int} {u : Nat} (h : Rd b a e (floatL u)) (hu : u < 18446744073709551616) : fltP b (a, 0) = (u, e, 0) := by
  unfold fltP
  rw [rdF_write h hu, if_neg (by simp)]
  rfl
theorem i32_small {c : Int} (h0 : 0 ≤ c) (h : c ≤ 1114111) : IntKind.i32.wrap c = c := by rw [wrap_i32]; omega
theorem listP_write {b : List UInt8} : ∀ (l : List Int) (a e : Int) (to : List Int), Rd b a e (l.map uintP).flatten → (∀ c ∈ l, 0 ≤ c ∧ c ≤ 1114111) → listP b l.length (a, 0) to = ((e, 0), to ++ l)
  | [], a, e, to, h, _ => by
    have := h.2.1
    simp at this
    simp [listP, this]
  | c :: l, a, e, to, h, hc => by
    rw [List.map_cons, List.flatten_cons] at h
    obtain ⟨h1, h2⟩ := h.split
    have hc0 := hc c List.mem_cons_self
    rw [List.length_cons, listP, if_neg (by simp), numP_write h1 hc0.1 hc0.2 (by decide)]
    simp only
    rw [listP_write l _ e _ h2 fun x hx => hc x (List.mem_cons_of_mem _ hx), i32_small hc0.1 hc0.2, List.append_assoc]; rfl
end Go.Proofs.Ytcpdnpaedkcebaa.V
namespace Go.Proofs.Ytcpdnpaedkcebaa.V
open Go Go.RowKit
set_option linter.unusedVariables false
set_option linter.unusedSimpArgs false
set_option maxRecDepth 100000
theorem none_parts {n t m w : Bool} {r : Rec} (h : noneR n t m w r = true) : (n = true → r.n = 0) ∧ (t = true → r.to = []) ∧ (m = true → r.name = ⟨#[]⟩) ∧ (r.kind ≠ 15 → r.other = ⟨#[]⟩) ∧ (w = true → r.weight = 0) := by
  have nil : ∀ s : ByteArray, s.data.toList = [] → s = ⟨#[]⟩ := fun s hs => by
    have := strOf_self s
    rw [hs] at this
    exact this.symm
  unfold noneR at h
  split at h
  · cases h
  · rename_i hc
    have h1 : n = true → r.n = 0 := fun hn => Classical.byContradiction fun h0 => hc (.inl ⟨hn, h0⟩)
    have h2 : t = true → r.to = [] := fun ht => by
      have : ¬(0 : Int) < r.to.length := fun h0 => hc (.inr ⟨ht, h0⟩)
      exact List.length_eq_zero_iff.1 (by omega)
    refine ⟨h1, h2, fun hm => ?_, fun hk => ?_, fun hw => ?_⟩
    · subst hm
      simp at h
      exact nil _ (by rw [h.1.1])
    · simp [hk] at h
      exact nil _ (by simpa using h.1.2)
    · subst hw
      simp at h
      exact h.2
theorem valid_in {c : Int} (h : valid c = true) : 0 ≤ c ∧ c ≤ 1114111 := by
  unfold valid at h
  simp only [Bool.and_eq_true, decide_eq_true_eq] at h
  exact ⟨h.1.1, h.1.2⟩
structure Fields (r : Rec) : Prop where
  low : 0 ≤ r.lo ∧ r.lo ≤ r.hi ∧ r.hi ≤ 1114111
  one : r.kind = 5 ∨ r.kind = 7 ∨ r.kind = 8 ∨ r.kind = 13 ∨ r.kind = 15 → r.hi = r.lo
  nul : r.kind = 15 → r.lo = 0
  num : 0 ≤ r.n ∧ r.n ≤ 1114111
  num0 : ¬(r.kind = 4 ∨ r.kind = 6 ∨ r.kind = 9 ∨ r.kind = 10) → r.n = 0
  to : (r.to.length : Int) ≤ 24 ∧ ∀ c ∈ r.to, 0 ≤ c ∧ c ≤ 1114111
  to0 : ¬(r.kind = 3 ∨ r.kind = 4 ∨ r.kind = 5 ∨ r.kind = 7 ∨ r.kind = 8 ∨ r.kind = 13) → r.to = []
  to1 : r.kind = 4 → ∃ a, r.to = [a]
  name : r.name.size ≤ 4
  name0 : ¬(r.kind = 12 ∨ r.kind = 15) → r.name = ⟨#[]⟩
  other : r.other.size ≤ 4
  other0 : r.kind ≠ 15 → r.other = ⟨#[]⟩
  wt0 : ¬(r.kind = 14 ∨ r.kind = 15) → r.weight = 0
theorem sound_in {r : Rec} {a b : Int} (h : soundR r a b = true) : ∀ c ∈ r.to, 0 ≤ c ∧ c ≤ 1114111 := by
  unfold soundR at h
  simp only [Bool.and_eq_true] at h
  exact fun c hc => valid_in (List.all_eq_true.1 h.2 c hc)
theorem fields {r : Rec} (h : r.right) : Fields r := by
  obtain ⟨hk, h15, hn15, hf⟩ := right_parts h
  have hto := right_to h
  have hn4 := right_one4 h
  have hnm := right_name h
  have hot := right_other h
  have hs4 := right_shift h
  have oneE : oneR r = true → r.hi = r.lo := fun h => by unfold oneR at h; simp only [Bool.and_eq_true, decide_eq_true_eq] at h; exact h.1.symm
  have key : (∃ n t m w, noneR n t m w r = true ∧ (n = false → r.kind = 4 ∨ r.kind = 6 ∨ r.kind = 9 ∨ r.kind = 10) ∧ (t = false → r.kind = 3 ∨ r.kind = 4 ∨ r.kind = 5 ∨ r.kind = 7 ∨ r.kind = 8 ∨ r.kind = 13) ∧ (m = false → r.kind = 12 ∨ r.kind = 15) ∧ (w = false → r.kind = 14 ∨ r.kind = 15)) ∧
      (r.kind = 5 ∨ r.kind = 7 ∨ r.kind = 8 ∨ r.kind = 13 → r.hi = r.lo) ∧ (r.kind = 6 → 1 ≤ r.n ∧ r.n ≤ 254) ∧ (r.kind = 9 → 0 ≤ r.n ∧ r.n ≤ 10) ∧ (r.kind = 10 → 0 ≤ r.n ∧ r.n ≤ 5) ∧
      ((r.kind = 3 ∨ r.kind = 4 ∨ r.kind = 5 ∨ r.kind = 7 ∨ r.kind = 8 ∨ r.kind = 13) → ∀ c ∈ r.to, 0 ≤ c ∧ c ≤ 1114111) := by
    unfold fitsR at hf
    by_cases h3 : r.kind = 3
    · rw [if_pos h3] at hf; simp only [Bool.and_eq_true] at hf
      exact ⟨⟨_, _, _, _, hf.1, by simp [h3], by simp [h3], by simp, by simp⟩, by omega, by omega, by omega, by omega, fun _ => sound_in hf.2⟩
    rw [if_neg h3] at hf
    by_cases h4 : r.kind = 4
    · rw [if_pos h4] at hf; simp only [Bool.and_eq_true] at hf
      refine ⟨⟨_, _, _, _, hf.1, by simp [h4], by simp [h4], by simp, by simp⟩, by omega, by omega, by omega, by omega, fun _ => ?_⟩
      have h2 := hf.2
      unfold shiftsR at h2
      split at h2
      · rename_i a hto
        simp only [Bool.and_eq_true] at h2
        intro c hc
        rw [hto, List.mem_singleton] at hc
        subst hc
        exact valid_in h2.1.1.2
      · cases h2
    rw [if_neg h4] at hf
    by_cases h5 : r.kind = 5
    · rw [if_pos h5] at hf; simp only [Bool.and_eq_true] at hf
      exact ⟨⟨_, _, _, _, hf.1.1, by simp [h5], by simp [h5], by simp, by simp⟩, fun _ => oneE hf.1.2, by omega, by omega, by omega, fun _ => sound_in hf.2⟩
    rw [if_neg h5] at hf
    by_cases h6 : r.kind = 6
    · rw [if_pos h6] at hf; simp only [Bool.and_eq_true, decide_eq_true_eq] at hf
      exact ⟨⟨_, _, _, _, hf.1, by simp [h6], by simp [h6], by simp, by simp⟩, by omega, fun _ => hf.2, by omega, by omega, by omega⟩
    rw [if_neg h6] at hf
    by_cases h7 : r.kind = 7
    · rw [if_pos h7] at hf; simp only [Bool.and_eq_true] at hf
      exact ⟨⟨_, _, _, _, hf.1.1, by simp [h7], by simp [h7], by simp, by simp⟩, fun _ => oneE hf.1.2, by omega, by omega, by omega, fun _ => sound_in hf.2⟩
    rw [if_neg h7] at hf
    by_cases h8 : r.kind = 8
    · rw [if_pos h8] at hf; simp only [Bool.and_eq_true] at hf
      exact ⟨⟨_, _, _, _, hf.1.1, by simp [h8], by simp [h8], by simp, by simp⟩, fun _ => oneE hf.1.2, by omega, by omega, by omega, fun _ => sound_in hf.2⟩
    rw [if_neg h8] at hf
    by_cases h9 : r.kind = 9
    · rw [if_pos h9] at hf; simp only [Bool.and_eq_true, decide_eq_true_eq] at hf
      exact ⟨⟨_, _, _, _, hf.1, by simp [h9], by simp [h9], by simp, by simp⟩, by omega, by omega, fun _ => hf.2, by omega, by omega⟩
    rw [if_neg h9] at hf
    by_cases h10 : r.kind = 10
    · rw [if_pos h10] at hf; simp only [Bool.and_eq_true, decide_eq_true_eq] at hf
      exact ⟨⟨_, _, _, _, hf.1, by simp [h10], by simp [h10], by simp, by simp⟩, by omega, by omega, by omega, fun _ => hf.2, by omega⟩
    rw [if_neg h10] at hf
    by_cases h12 : r.kind = 12
    · rw [if_pos h12] at hf; simp only [Bool.and_eq_true] at hf
      exact ⟨⟨_, _, _, _, hf.1, by simp, by simp, by simp [h12], by simp⟩, by omega, by omega, by omega, by omega, by omega⟩
    rw [if_neg h12] at hf
    by_cases h13 : r.kind = 13
    · rw [if_pos h13] at hf; simp only [Bool.and_eq_true] at hf
      exact ⟨⟨_, _, _, _, hf.1.1, by simp [h13], by simp [h13], by simp, by simp⟩, fun _ => oneE hf.1.2, by omega, by omega, by omega, fun _ => sound_in hf.2⟩
    rw [if_neg h13] at hf
    by_cases h14 : r.kind = 14
    · rw [if_pos h14] at hf; simp only [Bool.and_eq_true] at hf
      exact ⟨⟨_, _, _, _, hf.1, by simp, by simp, by simp, by simp [h14]⟩, by omega, by omega, by omega, by omega, by omega⟩
    rw [if_neg h14] at hf
    by_cases h15 : r.kind = 15
    · rw [if_pos h15] at hf; simp only [Bool.and_eq_true] at hf
      exact ⟨⟨_, _, _, _, hf.1.1.1.1, by simp, by simp, by simp [h15], by simp [h15]⟩, by omega, by omega, by omega, by omega, by omega⟩
    rw [if_neg h15] at hf
    exact ⟨⟨_, _, _, _, hf, by simp, by simp, by simp, by simp⟩, by omega, by omega, by omega, by omega, by omega⟩
  obtain ⟨⟨n, t, m, w, hno, kn, kt, km, kw⟩, k1, k6, k9, k10, kto⟩ := key
  obtain ⟨p1, p2, p3, p4, p5⟩ := none_parts hno
  have n0 : ¬(r.kind = 4 ∨ r.kind = 6 ∨ r.kind = 9 ∨ r.kind = 10) → r.n = 0 := fun hk => p1 (by cases n; exact absurd (kn rfl) hk; rfl)
  have t0 : ¬(r.kind = 3 ∨ r.kind = 4 ∨ r.kind = 5 ∨ r.kind = 7 ∨ r.kind = 8 ∨ r.kind = 13) → r.to = [] := fun hk => p2 (by cases t; exact absurd (kt rfl) hk; rfl)
  have m0 : ¬(r.kind = 12 ∨ r.kind = 15) → r.name = ⟨#[]⟩ := fun hk => p3 (by cases m; exact absurd (km rfl) hk; rfl)
  have w0 : ¬(r.kind = 14 ∨ r.kind = 15) → r.weight = 0 := fun hk => p5 (by cases w; exact absurd (kw rfl) hk; rfl)
  constructor
  · by_cases hk : r.kind = 15
    · have := h15 hk; omega
    · exact hn15 hk
  · intro hx
    by_cases hk : r.kind = 15
    · have := h15 hk; omega
    · exact k1 (by omega)
  · exact fun hk => (h15 hk).1
  · by_cases h4 : r.kind = 4
    · have := hs4 h4; omega
    by_cases h6 : r.kind = 6
    · have := k6 h6; omega
    by_cases h9 : r.kind = 9
    · have := k9 h9; omega
    by_cases h10 : r.kind = 10
    · have := k10 h10; omega
    rw [n0 (by omega)]; decide
  · exact n0
  · refine ⟨by omega, ?_⟩
    by_cases hk : r.kind = 3 ∨ r.kind = 4 ∨ r.kind = 5 ∨ r.kind = 7 ∨ r.kind = 8 ∨ r.kind = 13
    · exact kto hk
    · rw [t0 hk]; simp
  · exact t0
  · exact hn4
  · by_cases hk : r.kind = 12 ∨ r.kind = 15
    · rw [hnm hk]; exact Nat.le_refl _
    · rw [m0 hk]; decide
  · exact m0
  · by_cases hk : r.kind = 15
    · rw [hot hk]; exact Nat.le_refl _
    · rw [p4 hk]; decide
  · exact p4
  · exact w0
end Go.Proofs.Ytcpdnpaedkcebaa.V
namespace Go.Proofs.Ytcpdnpaedkcebaa.V
open Go Go.RowKit
set_option linter.unusedVariables false
set_option linter.unusedSimpArgs false
set_option maxRecDepth 100000
theorem readF_82 (b : List UInt8) (s : Int × Int) (r : Rec) : readF 82 b s r = rLo b s r := rfl
theorem readF_85 (b : List UInt8) (s : Int × Int) (r : Rec) : readF 85 b s r = rHi b s r := rfl
theorem readF_87 (b : List UInt8) (s : Int × Int) (r : Rec) : readF 87 b s r = rN b s r := rfl
theorem readF_89 (b : List UInt8) (s : Int × Int) (r : Rec) : readF 89 b s r = rOne b s r := rfl
theorem readF_91 (b : List UInt8) (s : Int × Int) (r : Rec) : readF 91 b s r = rList b s r := rfl
theorem readF_94 (b : List UInt8) (s : Int × Int) (r : Rec) : readF 94 b s r = rName b s r := rfl
theorem readF_97 (b : List UInt8) (s : Int × Int) (r : Rec) : readF 97 b s r = rOther b s r := rfl
theorem readF_100 (b : List UInt8) (s : Int × Int) (r : Rec) : readF 100 b s r = rWt b s r := rfl
theorem writeF_81 (r : Rec) : writeF 81 r = uintP r.lo := rfl
theorem writeF_84 (r : Rec) : writeF 84 r = uintP (IntKind.i64.wrap (r.hi - r.lo)) := rfl
theorem writeF_86 (r : Rec) : writeF 86 r = uintP r.n := rfl
theorem writeF_88 (r : Rec) : writeF 88 r = uintP (r.to.getD 0 0) := rfl
theorem writeF_90 (r : Rec) : writeF 90 r = toL r.to := rfl
theorem writeF_92 (r : Rec) : writeF 92 r = textL r.name := rfl
theorem writeF_96 (r : Rec) : writeF 96 r = textL r.other := rfl
theorem writeF_98 (r : Rec) : writeF 98 r = floatL r.weight := rfl
theorem kind_groups {k : Int} (h : famK k ≠ 0) : (k = 1 ∨ k = 2 ∨ k = 11) ∨ k = 3 ∨ k = 4 ∨ (k = 5 ∨ k = 7 ∨ k = 8 ∨ k = 13) ∨ (k = 6 ∨ k = 9 ∨ k = 10) ∨ k = 12 ∨ k = 14 ∨ k = 15 := by
  unfold famK at h
  (repeat' split at h) <;> omega
theorem pA {k : Int} (h : k = 1 ∨ k = 2 ∨ k = 11) : parts8 k = [(81, 82), (84, 85)] := by rcases h with h | h | h <;> subst h <;> rfl
theorem pD {k : Int} (h : k = 5 ∨ k = 7 ∨ k = 8 ∨ k = 13) : parts8 k = [(81, 82), (90, 91)] := by rcases h with h | h | h | h <;> subst h <;> rfl
theorem pE {k : Int} (h : k = 6 ∨ k = 9 ∨ k = 10) : parts8 k = [(81, 82), (84, 85), (86, 87)] := by rcases h with h | h | h <;> subst h <;> rfl
theorem pB {k : Int} (h : k = 3) : parts8 k = [(81, 82), (84, 85), (90, 91)] := by subst h; rfl
theorem pC {k : Int} (h : k = 4) : parts8 k = [(81, 82), (84, 85), (86, 87), (88, 89)] := by subst h; rfl
theorem pF {k : Int} (h : k = 12) : parts8 k = [(81, 82), (84, 85), (92, 94)] := by subst h; rfl
theorem pG {k : Int} (h : k = 14) : parts8 k = [(81, 82), (84, 85), (98, 100)] := by subst h; rfl
theorem pH {k : Int} (h : k = 15) : parts8 k = [(92, 94), (96, 97), (98, 100)] := by subst h; rfl
theorem rLo_write {b : List UInt8} {a e : Int} {r r0 : Rec} (hf : Fields r) (h : Rd b a e (uintP r.lo)) : rLo b (a, 0) r0 = ((e, 0), { r0 with lo := r.lo, hi := r.lo }) := by
  have := hf.low
  unfold rLo
  rw [numP_write h (by omega) (by omega) (by decide)]
theorem rHi_write {b : List UInt8} {a e : Int} {r r0 : Rec} (hf : Fields r) (h : Rd b a e (uintP (IntKind.i64.wrap (r.hi - r.lo)))) (hl : r0.lo = r.lo) : rHi b (a, 0) r0 = ((e, 0), { r0 with hi := r.hi }) := by
  have := hf.low
  have e1 : IntKind.i64.wrap (r.hi - r.lo) = r.hi - r.lo := by rw [wrap_i64]; omega
  rw [e1] at h
  unfold rHi
  rw [numP_write h (by omega) (by omega) (by decide), hl, show IntKind.i64.wrap (r.lo + (r.hi - r.lo)) = r.hi by rw [wrap_i64]; omega]
theorem rN_write {b : List UInt8} {a e : Int} {r r0 : Rec} (hf : Fields r) (h : Rd b a e (uintP r.n)) : rN b (a, 0) r0 = ((e, 0), { r0 with n := r.n }) := by
  have := hf.num
  unfold rN
  rw [numP_write h (by omega) (by omega) (by decide)]
theorem rOne_write {b : List UInt8} {a e : Int} {r r0 : Rec} (hf : Fields r) (hk : r.kind = 4) (h : Rd b a e (uintP (r.to.getD 0 0))) : rOne b (a, 0) r0 = ((e, 0), { r0 with to := r.to }) := by
  obtain ⟨c, hc⟩ := hf.to1 hk
  have h1 := hf.to.2 c (by rw [hc]; exact List.mem_singleton.2 rfl)
  rw [hc] at h ⊢
  have h : Rd b a e (uintP c) := h
  unfold rOne
  rw [numP_write h h1.1 h1.2 (by decide), i32_small h1.1 h1.2]
theorem rList_write {b : List UInt8} {a e : Int} {r r0 : Rec} (hf : Fields r) (h : Rd b a e (toL r.to)) (ht : r0.to = []) : rList b (a, 0) r0 = ((e, 0), { r0 with to := r.to }) := by
  unfold toL at h
  obtain ⟨h1, h2⟩ := h.split
  unfold rList
  rw [numP_write h1 (by omega) hf.to.1 (by decide)]
  simp only [Int.toNat_natCast]
  rw [listP_write r.to _ e r0.to h2 hf.to.2, ht]
  rfl
theorem rName_write {b : List UInt8} {a e : Int} {r r0 : Rec} (hf : Fields r) (h : Rd b a e (textL r.name)) : rName b (a, 0) r0 = ((e, 0), { r0 with name := r.name }) := by
  unfold rName
  rw [textP_write h hf.name]
theorem rOther_write {b : List UInt8} {a e : Int} {r r0 : Rec} (hf : Fields r) (h : Rd b a e (textL r.other)) : rOther b (a, 0) r0 = ((e, 0), { r0 with other := r.other }) := by
  unfold rOther
  rw [textP_write h hf.other]
theorem rWt_write {b : List UInt8} {a e : Int} {r r0 : Rec} (hw : r.wok) (h : Rd b a e (floatL r.weight)) : rWt b (a, 0) r0 = ((e, 0), { r0 with weight := r.weight }) := by
  unfold rWt
  rw [fltP_write h hw]
theorem rec_ext {r s : Rec} (h1 : r.kind = s.kind) (h2 : r.lo = s.lo) (h3 : r.hi = s.hi) (h4 : r.n = s.n) (h5 : r.to = s.to) (h6 : r.name = s.name) (h7 : r.other = s.other) (h8 : r.weight = s.weight) : r = s := by
  cases r; cases s; simp_all
theorem reads_write {r : Rec} (hk : famK r.kind ≠ 0) (hf : Fields r) (hw : r.wok) {b : List UInt8} {a e : Int} (h : Rd b a e ((parts8 r.kind).flatMap fun p => writeF p.1 r)) :
    readsF b (parts8 r.kind) (a, 0) (zeroR r.kind) = ((e, 0), r) := by
  rcases kind_groups hk with k | k | k | k | k | k | k | k
  · rw [pA k] at h ⊢
    simp only [List.flatMap_cons, List.flatMap_nil, List.append_nil, writeF_81, writeF_84] at h
    obtain ⟨h1, h2⟩ := h.split
    simp only [readsF, readF_82, readF_85, rLo_write hf h1, zeroR, rHi_write hf h2]
    exact Prod.ext rfl (rec_ext rfl rfl rfl (hf.num0 (by omega)).symm (hf.to0 (by omega)).symm (hf.name0 (by omega)).symm (hf.other0 (by omega)).symm (hf.wt0 (by omega)).symm)
  · rw [pB k] at h ⊢
    simp only [List.flatMap_cons, List.flatMap_nil, List.append_nil, writeF_81, writeF_84, writeF_90] at h
    obtain ⟨h1, h2⟩ := h.split
    obtain ⟨h2, h3⟩ := h2.split
    simp only [readsF, readF_82, readF_85, readF_91, rLo_write hf h1, zeroR, rHi_write hf h2, rList_write hf h3]
    exact Prod.ext rfl (rec_ext rfl rfl rfl (hf.num0 (by omega)).symm rfl (hf.name0 (by omega)).symm (hf.other0 (by omega)).symm (hf.wt0 (by omega)).symm)
  · rw [pC k] at h ⊢
    simp only [List.flatMap_cons, List.flatMap_nil, List.append_nil, writeF_81, writeF_84, writeF_86, writeF_88] at h
    obtain ⟨h1, h2⟩ := h.split
    obtain ⟨h2, h3⟩ := h2.split
    obtain ⟨h3, h4⟩ := h3.split
    simp only [readsF, readF_82, readF_85, readF_87, readF_89, rLo_write hf h1, zeroR, rHi_write hf h2, rN_write hf h3, rOne_write hf k h4]
    exact Prod.ext rfl (rec_ext rfl rfl rfl rfl rfl (hf.name0 (by omega)).symm (hf.other0 (by omega)).symm (hf.wt0 (by omega)).symm)
  · rw [pD k] at h ⊢
    simp only [List.flatMap_cons, List.flatMap_nil, List.append_nil, writeF_81, writeF_90] at h
    obtain ⟨h1, h2⟩ := h.split
    simp only [readsF, readF_82, readF_91, rLo_write hf h1, zeroR, rList_write hf h2]
    exact Prod.ext rfl (rec_ext rfl rfl (hf.one (by omega)).symm (hf.num0 (by omega)).symm rfl (hf.name0 (by omega)).symm (hf.other0 (by omega)).symm (hf.wt0 (by omega)).symm)
  · rw [pE k] at h ⊢
    simp only [List.flatMap_cons, List.flatMap_nil, List.append_nil, writeF_81, writeF_84, writeF_86] at h
    obtain ⟨h1, h2⟩ := h.split
    obtain ⟨h2, h3⟩ := h2.split
    simp only [readsF, readF_82, readF_85, readF_87, rLo_write hf h1, zeroR, rHi_write hf h2, rN_write hf h3]
    exact Prod.ext rfl (rec_ext rfl rfl rfl rfl (hf.to0 (by omega)).symm (hf.name0 (by omega)).symm (hf.other0 (by omega)).symm (hf.wt0 (by omega)).symm)
  · rw [pF k] at h ⊢
    simp only [List.flatMap_cons, List.flatMap_nil, List.append_nil, writeF_81, writeF_84, writeF_92] at h
    obtain ⟨h1, h2⟩ := h.split
    obtain ⟨h2, h3⟩ := h2.split
    simp only [readsF, readF_82, readF_85, readF_94, rLo_write hf h1, zeroR, rHi_write hf h2, rName_write hf h3]
    exact Prod.ext rfl (rec_ext rfl rfl rfl (hf.num0 (by omega)).symm (hf.to0 (by omega)).symm rfl (hf.other0 (by omega)).symm (hf.wt0 (by omega)).symm)
  · rw [pG k] at h ⊢
    simp only [List.flatMap_cons, List.flatMap_nil, List.append_nil, writeF_81, writeF_84, writeF_98] at h
    obtain ⟨h1, h2⟩ := h.split
    obtain ⟨h2, h3⟩ := h2.split
    simp only [readsF, readF_82, readF_85, readF_100, rLo_write hf h1, zeroR, rHi_write hf h2, rWt_write hw h3]
    exact Prod.ext rfl (rec_ext rfl rfl rfl (hf.num0 (by omega)).symm (hf.to0 (by omega)).symm (hf.name0 (by omega)).symm (hf.other0 (by omega)).symm rfl)
  · rw [pH k] at h ⊢
    simp only [List.flatMap_cons, List.flatMap_nil, List.append_nil, writeF_92, writeF_96, writeF_98] at h
    obtain ⟨h1, h2⟩ := h.split
    obtain ⟨h2, h3⟩ := h2.split
    simp only [readsF, readF_94, readF_97, readF_100, rName_write hf h1, zeroR, rOther_write hf h2, rWt_write hw h3]
    have l0 := hf.nul k
    have h0 := hf.one (by omega)
    exact Prod.ext rfl (rec_ext rfl l0.symm (by rw [h0, l0]) (hf.num0 (by omega)).symm (hf.to0 (by omega)).symm rfl rfl rfl)
theorem rec_write {r : Rec} (hr : r.right) (hw : r.wok) {b : List UInt8} {a e : Int} (h : Rd b a e (recL r)) : recS b a = (e, 0) ∧ recR b a = r := by
  have hk := (right_parts hr).1
  have hf := fields hr
  have hp := famK_ne8 hk
  have hrange : 1 ≤ r.kind ∧ r.kind ≤ 15 := by rcases kind_groups hk with g | g | g | g | g | g | g | g <;> omega
  unfold recL at h
  have h' : Rd b a e ([by8 r.kind] ++ (parts8 r.kind).flatMap fun p => writeF p.1 r) := h
  obtain ⟨h1, h2⟩ := h'.split
  have h3 := h1.le
  have h4 := h1.1
  have h5 := h1.2.2
  simp only [List.length_singleton] at h2 h3 h5
  have hka : kindAt b a = r.kind := by
    have hl : a.toNat < b.length := by omega
    unfold kindAt
    rw [List.drop_eq_getElem_cons hl] at h5
    injection h5 with h5 _
    rw [List.getD_eq_getElem?_getD, List.getElem?_eq_getElem hl]
    show ((b[a.toNat].toNat : Nat) : Int) = _
    rw [h5, by8_nat]; omega
  have hx := reads_write hk hf hw h2
  unfold recS recR
  rw [hka, if_neg (by omega), if_neg hp]
  have e1 : a + ((1 : Nat) : Int) = a + 1 := rfl
  rw [e1] at hx
  rw [hx]
  exact ⟨rfl, rfl⟩
theorem unp_write {b : List UInt8} : ∀ (m : List Rec) (a e : Int) (ps : List Int) (l : List Rec), (∀ r ∈ m, r.right) → (∀ r ∈ m, r.wok) → Rd b a e (m.flatMap recL) → ∃ ps', unpGo b m.length a ps l = .ok (e, ps', l ++ m)
  | [], a, e, ps, l, _, _, h => by
    have := h.2.1
    simp at this
    exact ⟨ps, by simp [unpGo, this]⟩
  | r :: m, a, e, ps, l, hr, hw, h => by
    rw [List.flatMap_cons] at h
    obtain ⟨h1, h2⟩ := h.split
    obtain ⟨g1, g2⟩ := rec_write (hr r List.mem_cons_self) (hw r List.mem_cons_self) h1
    obtain ⟨ps', h3⟩ := unp_write m _ e (ps ++ [a]) (l ++ [r]) (fun x hx => hr x (List.mem_cons_of_mem _ hx)) (fun x hx => hw x (List.mem_cons_of_mem _ hx)) h2
    refine ⟨ps', ?_⟩
    rw [List.length_cons, unpGo, g1, g2, if_neg (by simp), h3, List.append_assoc]; rfl
end Go.Proofs.Ytcpdnpaedkcebaa.V
namespace Go.Proofs.Ytcpdnpaedkcebaa.V
open Go Go.RowKit
set_option linter.unusedVariables false
set_option linter.unusedSimpArgs false
set_option maxRecDepth 100000
def bodyL (l : List Rec) : List UInt8 := packH l.length ++ l.flatMap recL
theorem packB_eq (l : List Rec) : packB l = bodyL l ++ sum4 (sumW (bodyL l)) := rfl
theorem sum4_len (s : Nat) : (sum4 s).length = 4 := rfl
theorem body_five (l : List Rec) : bodyL l = [101, 110, 100, 111, 1] ++ (uintL l.length ++ l.flatMap recL) := by unfold bodyL packH; rw [List.append_assoc]
theorem uintL_pos (n : Nat) : 1 ≤ (uintL n).length := by rw [uintL]; split <;> simp
theorem pack_take (l : List Rec) : (packB l).length = (bodyL l).length + 4 ∧ (packB l).take ((packB l).length - 4) = bodyL l ∧ (packB l).drop ((packB l).length - 4) = sum4 (sumW (bodyL l)) := by
  have h : (packB l).length = (bodyL l).length + 4 := by rw [packB_eq, List.length_append, sum4_len]
  refine ⟨h, ?_, ?_⟩
  · rw [h, packB_eq, Nat.add_sub_cancel, List.take_left]
  · rw [h, packB_eq, Nat.add_sub_cancel, List.drop_left]
theorem pack_head {l : List Rec} (h : (packB l).length ≤ 262144) : headF (packB l) = (0, 0) := by
  obtain ⟨h1, h2, h3⟩ := pack_take l
  have h5 : 6 ≤ (bodyL l).length := by
    rw [body_five]
    have := uintL_pos l.length
    simp only [List.length_append, List.length_cons, List.length_nil]; omega
  unfold headF
  rw [if_neg (by omega), if_neg (by omega), h2, h3, if_neg (by simp)]
  have e1 : packB l = 101 :: 110 :: 100 :: 111 :: 1 :: (uintL l.length ++ l.flatMap recL ++ sum4 (sumW (bodyL l))) := by
    rw [packB_eq]
    conv => lhs; arg 1; rw [body_five]
    rfl
  rw [e1, if_neg (by simp), if_neg (by simp)]
theorem check_len {l : List Rec} (h : (checkP l).2 = 0) : l.length ≤ 4096 := by
  unfold checkP at h
  split at h
  · simp at h
  · omega
theorem unpack_pack {l : List Rec} (hok : ∀ r ∈ l, r.ok) (hw : ∀ r ∈ l, r.wok) (hc : (checkP l).2 = 0) (hl : (packB l).length ≤ 262144) : unpackF (packB l) = (l, 0, 0) := by
  have hr := check_right hok hc
  have hn := check_len hc
  obtain ⟨h1, h2, h3⟩ := pack_take l
  have hd : (bodyL l).drop (5 : Int).toNat = uintL l.length ++ l.flatMap recL := by rw [body_five]; rfl
  have h5 : 6 ≤ (bodyL l).length := by
    rw [body_five]
    have := uintL_pos l.length
    simp only [List.length_append, List.length_cons, List.length_nil]; omega
  have g1 : Rd (bodyL l) 5 (5 + (uintL l.length).length) (uintL l.length) := Rd.of (by omega) hd
  have g2 : Rd (bodyL l) 5 (bodyL l).length (uintL l.length ++ l.flatMap recL) := by
    have : ((bodyL l).length : Int) = 5 + (uintL l.length ++ l.flatMap recL).length := by rw [body_five]; simp only [List.length_append, List.length_cons, List.length_nil]; omega
    rw [this]
    exact Rd.of (q := []) (by omega) (by rw [hd, List.append_nil])
  have g3 := g2.split.2
  have g4 : rdU (bodyL l) 5 = ((l.length : Int), 5 + ((uintL l.length).length : Int), 0) := rdU_write (by rw [uintP_nat]; exact g1) (by omega) (by omega)
  obtain ⟨ps, g5⟩ := unp_write l _ _ [] [] hr hw g3
  unfold unpackF
  rw [pack_head hl, if_neg (by simp), h2, g4, if_neg (by simp), if_neg (by simp only; omega)]
  simp only [Int.toNat_natCast, g5, List.nil_append]
  rw [if_neg (by omega), if_neg (by simpa using hc)]
theorem head_parts {b : List UInt8} (h : (headF b).2 = 0) : (10 ≤ b.length ∧ b.length ≤ 262144) ∧ sum4 (sumW (b.take (b.length - 4))) = b.drop (b.length - 4) ∧ b.take 4 = [101, 110, 100, 111] ∧ b.getD 4 0 = 1 := by
  unfold headF at h
  by_cases h1 : 262144 < b.length
  · rw [if_pos h1] at h; simp at h
  rw [if_neg h1] at h
  by_cases h2 : b.length < 10
  · rw [if_pos h2] at h; simp at h
  rw [if_neg h2] at h
  by_cases h3 : sum4 (sumW (b.take (b.length - 4))) ≠ b.drop (b.length - 4)
  · rw [if_pos h3] at h; simp at h
  rw [if_neg h3] at h
  by_cases h4 : b.take 4 ≠ [101, 110, 100, 111]
  · rw [if_pos h4] at h; simp at h
  rw [if_neg h4] at h
  by_cases h5 : b.getD 4 0 ≠ 1
  · rw [if_pos h5] at h; simp at h
  exact ⟨by omega, by simpa using h3, by simpa using h4, by simpa using h5⟩
end Go.Proofs.Ytcpdnpaedkcebaa.V
