/- Towards the law PackUnpacks (what pack.Unpack tells), part 7: the texts Ze Zf Zg Zh Zi Zj Xt Yt, what of them is used. -/
import Derived.Test.YtcpdnpaedkcebaaZPackUnpacks6
namespace Go.Proofs.Ytcpdnpaedkcebaa.V
open Go Go.RowKit
set_option linter.unusedVariables false
set_option linter.unusedSimpArgs false
set_option maxRecDepth 100000
section
variable {P : Program} {C : Ctx} {ι ι' : Nat → Loc} {S S' : Nat → Nat → Prop} {σ σ' : Slots} {H H' : LH} {a a' : Act} {w w' w'' : World} {Q : Exit → Act → World → Prop} {ops : Array Oper} {rest : List Oper} {o : Oper}
theorem Fr.trans {O : Nat → Prop} (h : Fr O w w') (h' : Fr O w' w'') : Fr O w w'' :=
  ⟨h'.os.trans h.os, h'.tape.trans h.tape, h'.output.trans h.output, Nat.le_trans h.size h'.size, fun k hk hO => (h'.block k (Nat.lt_of_lt_of_le hk h.size) hO).trans (h.block k hk hO)⟩
theorem Fr.imp {O O' : Nat → Prop} (h : Fr O w w') (hi : ∀ b, b < w.heap.size → O b → O' b) : Fr O' w w' :=
  ⟨h.os, h.tape, h.output, h.size, fun k hk hO => h.block k hk (fun ho => hO (hi k hk ho))⟩
theorem R.make (O : Nat → Prop) (S : Nat → Nat → Prop) (ι : Nat → Loc) {n : Nat} {ds : List Deferred} {l : List (Nat × CV)} (hS : ∀ b {o}, S b o → b < w.heap.size)
    (hl : ∀ p ∈ l, VR w S p.2 (a.tmps.getD p.1 Go.undef)) (hsz : a.tmps.size = n) (hd : a.defers = ds) :
    R ⟨w, O, S, ι, n, ds⟩ ι S (l.map fun p => (p.1, .c p.2)) [] a w := by
  have nope : ∀ id, ¬ Owned ι [] id := fun id ho => by unfold Owned at ho; simp [LH.get] at ho
  refine ⟨Fr.refl _ _, ⟨fun id cs hg => by simp [LH.get] at hg, fun id e xs hg => by simp [LH.get] at hg, fun id e xs hg => by simp [LH.get] at hg, fun i j hi => absurd hi (nope _), fun i hi => absurd hi (nope _), fun i hi => absurd hi (nope _), hS⟩, fun t => ?_, fun id ho => absurd ho (nope _), fun b _ hb => .inl hb, fun b _ hb => hb, fun id ob hg => by simp [LH.get] at hg, hsz, hd⟩
  induction l with
  | nil => exact AVR.undef _
  | cons p l ih =>
    obtain ⟨k, v⟩ := p
    by_cases e : k = t
    · subst e
      simp only [List.map_cons, Slots.get, if_true]
      exact .c _ _ (hl (k, v) (by simp))
    · simp only [List.map_cons, Slots.get, if_neg e]
      exact ih fun p hp => hl p (by simp [hp])
theorem put_same {d : Nat} (v : Value) (h : d < a.tmps.size) : (a.put (some d) v).tmps.getD d Go.undef = v := by
  simp [Act.put, h]
theorem put_other {d t : Nat} (v : Value) (h : d ≠ t) : (a.put (some d) v).tmps.getD t Go.undef = a.tmps.getD t Go.undef := by
  simp [Act.put, Array.getD_eq_getD_getElem?, Array.getElem?_setIfInBounds_ne h]
theorem put_size {d : Option Nat} (v : Value) : (a.put d v).tmps.size = a.tmps.size := by cases d <;> simp [Act.put]
theorem put_defers {d : Option Nat} (v : Value) : (a.put d v).defers = a.defers := by cases d <;> rfl
theorem op_move {s d : Nat} (ho : o.op = .move (.tmp s) ∧ o.dst = some d ∧ o.guard = none) (h : wpList P ops Q rest (a.put (some d) (a.tmps.getD s Go.undef)) w) : wpList P ops Q (o :: rest) a w := by
  obtain ⟨q1, q2, q3⟩ := ho
  refine op_val (v := a.tmps.getD s Go.undef) q3 (by
    unfold execOp
    simp only [q1]
    rfl) ?_
  rw [q2]
  exact h
theorem VR.old {c : CV} {u : Value} (h : VR w S c u) (k : ∀ b {o}, S b o → S' b o ∧ w'.heap[b]? = w.heap[b]?) : VR w' S' c u :=
  h.mono fun b o x hs hx => ⟨(k b hs).1, by rw [cell_block (k b hs).2]; exact hx⟩
theorem RowR.old {L : Loc} {e : Nat} {xs : List CV} (h : RowR L S w e xs) (hL : L.isnil = false → w'.heap[L.block]? = w.heap[L.block]?) (k : ∀ b {o}, S b o → S' b o ∧ w'.heap[b]? = w.heap[b]?) : RowR L S' w' e xs := by
  unfold RowR at h ⊢
  split at h
  · rename_i hn
    rw [if_pos hn]; exact h
  · rename_i hn
    rw [if_neg hn]
    have hb := hL (by simpa using hn)
    refine ⟨h.1, h.2.1, fun o ho => ?_, fun i j hi hj => ?_⟩
    · rw [cell_block hb, frozen_block hb]; exact h.2.2.1 o ho
    · obtain ⟨u, hu, hv⟩ := h.2.2.2 i j hi hj
      exact ⟨u, by rw [cell_block hb]; exact hu, hv.old k⟩
end
def y1 (f : Func) : Array Oper := opsOf (seqA (seqB (codeOf f)))
def y2 (f : Func) : Array Oper := opsOf (seqA (seqB (seqB (codeOf f))))
def y3 (f : Func) : Array Oper := opsOf (seqA (seqB (seqB (seqB (codeOf f)))))
def y4' (f : Func) : Array Oper := opsOf (seqA (seqA (seqB (seqB (seqB (seqB (codeOf f)))))))
def yz (f : Func) : Array Oper := opsOf (seqA (seqB (seqB (seqB (seqB (seqB (seqB (codeOf f))))))))
theorem n36 : Try.f36.ntmps = 76 := by kernel_rfl
theorem y1_l : (y1 Try.f36).toList = at_ (y1 Try.f36) 0 :: (y1 Try.f36).toList.drop 1 := by kernel_rfl
theorem y2_l : (y2 Try.f36).toList = at_ (y2 Try.f36) 0 :: (y2 Try.f36).toList.drop 1 := by kernel_rfl
theorem y3_l : (y3 Try.f36).toList = at_ (y3 Try.f36) 0 :: (y3 Try.f36).toList.drop 1 := by kernel_rfl
theorem y4'_l : (y4' Try.f36).toList = at_ (y4' Try.f36) 0 :: at_ (y4' Try.f36) 1 :: (y4' Try.f36).toList.drop 2 := by kernel_rfl
theorem yz_l : (yz Try.f36).toList = at_ (yz Try.f36) 0 :: at_ (yz Try.f36) 1 :: (yz Try.f36).toList.drop 2 := by kernel_rfl
theorem y1_0 : (at_ (y1 Try.f36) 0).op = .move (.tmp 0) ∧ (at_ (y1 Try.f36) 0).dst = some 15 ∧ (at_ (y1 Try.f36) 0).guard = none := ⟨by kernel_rfl, by kernel_rfl, by kernel_rfl⟩
theorem y2_0 : (at_ (y2 Try.f36) 0).op = .move (.tmp 0) ∧ (at_ (y2 Try.f36) 0).dst = some 21 ∧ (at_ (y2 Try.f36) 0).guard = none := ⟨by kernel_rfl, by kernel_rfl, by kernel_rfl⟩
theorem y3_0 : (at_ (y3 Try.f36) 0).op = .move (.tmp 0) ∧ (at_ (y3 Try.f36) 0).dst = some 27 ∧ (at_ (y3 Try.f36) 0).guard = none := ⟨by kernel_rfl, by kernel_rfl, by kernel_rfl⟩
theorem y4'_0 : (at_ (y4' Try.f36) 0).op = .move (.tmp 3) ∧ (at_ (y4' Try.f36) 0).dst = some 32 ∧ (at_ (y4' Try.f36) 0).guard = none := ⟨by kernel_rfl, by kernel_rfl, by kernel_rfl⟩
theorem y4'_1 : (at_ (y4' Try.f36) 1).op = .move (.tmp 6) ∧ (at_ (y4' Try.f36) 1).dst = some 33 ∧ (at_ (y4' Try.f36) 1).guard = none := ⟨by kernel_rfl, by kernel_rfl, by kernel_rfl⟩
theorem yz_0 : (at_ (yz Try.f36) 0).op = .move (.tmp 9) ∧ (at_ (yz Try.f36) 0).dst = some 73 ∧ (at_ (yz Try.f36) 0).guard = none := ⟨by kernel_rfl, by kernel_rfl, by kernel_rfl⟩
theorem yz_1 : (at_ (yz Try.f36) 1).op = .move (.tmp 6) ∧ (at_ (yz Try.f36) 1).dst = some 74 ∧ (at_ (yz Try.f36) 1).guard = none := ⟨by kernel_rfl, by kernel_rfl, by kernel_rfl⟩
def qa1 : List IOp := [⟨some 16, 1, none, .call (.c (.fn 37)) [(.t 15, .view 1)]⟩, ⟨some 14, 0, none, .mv (.t 16)⟩, ⟨some 17, 0, none, .ext (.t 14) 0⟩, ⟨some 18, 0, none, .ext (.t 14) 1⟩, ⟨some 19, 0, none, .ext (.t 14) 2⟩, ⟨some 3, 0, none, .mv (.t 17)⟩, ⟨some 4, 0, none, .mv (.t 18)⟩, ⟨some 5, 0, none, .mv (.t 19)⟩]
def qa2 : List IOp := [⟨some 22, 11, none, .call (.c (.fn 62)) [(.t 21, .view 1)]⟩, ⟨some 20, 0, none, .mv (.t 22)⟩, ⟨some 23, 0, none, .ext (.t 20) 0⟩, ⟨some 24, 0, none, .ext (.t 20) 1⟩, ⟨some 25, 0, none, .ext (.t 20) 2⟩, ⟨some 6, 0, none, .mv (.t 23)⟩, ⟨some 7, 0, none, .mv (.t 24)⟩, ⟨some 8, 0, none, .mv (.t 25)⟩]
def qa3 : List IOp := [⟨some 28, 21, none, .call (.c (.fn 37)) [(.t 27, .view 1)]⟩, ⟨some 26, 0, none, .mv (.t 28)⟩, ⟨some 29, 0, none, .ext (.t 26) 0⟩, ⟨some 30, 0, none, .ext (.t 26) 1⟩, ⟨some 31, 0, none, .ext (.t 26) 2⟩, ⟨some 9, 0, none, .mv (.t 29)⟩, ⟨some 10, 0, none, .mv (.t 30)⟩, ⟨some 11, 0, none, .mv (.t 31)⟩]
def qa4 : List IOp := [⟨some 34, 31, none, .call (.c (.fn 23)) [(.t 32, .view 8), (.t 33, .view 8)]⟩, ⟨some 35, 0, none, .not (.t 34)⟩, ⟨some 36, 0, none, .mv (.t 35)⟩, ⟨some 37, 0, some (36, false), .mv (.t 4)⟩, ⟨some 38, 0, some (36, false), .mv (.t 7)⟩, ⟨some 39, 0, some (36, false), .bin .neq (.t 37) (.t 38)⟩, ⟨some 40, 0, none, .pick (.t 36) (.c (.bool true)) (.t 39)⟩, ⟨some 41, 0, none, .mv (.t 40)⟩, ⟨some 42, 0, some (41, false), .mv (.t 5)⟩, ⟨some 43, 0, some (41, false), .mv (.t 8)⟩, ⟨some 44, 0, some (41, false), .bin .neq (.t 42) (.t 43)⟩, ⟨some 45, 0, none, .pick (.t 41) (.c (.bool true)) (.t 44)⟩]
def qaz : List IOp := [⟨some 75, 41, none, .call (.c (.fn 23)) [(.t 73, .view 8), (.t 74, .view 8)]⟩, ⟨some 2, 0, none, .mv (.t 75)⟩]
theorem y1_c : chkOps Try.prog Try.f36.ntmps (y1 Try.f36) ((y1 Try.f36).toList.drop 1) qa1 = true := by decide +kernel
theorem y2_c : chkOps Try.prog Try.f36.ntmps (y2 Try.f36) ((y2 Try.f36).toList.drop 1) qa2 = true := by decide +kernel
theorem y3_c : chkOps Try.prog Try.f36.ntmps (y3 Try.f36) ((y3 Try.f36).toList.drop 1) qa3 = true := by decide +kernel
theorem y4'_c : chkOps Try.prog Try.f36.ntmps (y4' Try.f36) ((y4' Try.f36).toList.drop 2) qa4 = true := by decide +kernel
theorem yz_c : chkOps Try.prog Try.f36.ntmps (yz Try.f36) ((yz Try.f36).toList.drop 2) qaz = true := by decide +kernel
theorem wqa1 (b : List UInt8) (hb : b.length < 1000000000000000) (v0 : Value) (Q : Ex → Slots → LH → Prop) (hQ : ∀ σ, Has σ [(0, .c (.raw v0)), (3, .osl 64 0 (unpackF b).1.length), (4, .c (.int .i64 (unpackF b).2.1)), (5, .c (.int .i64 (unpackF b).2.2))] → Q .norm σ [(64, .row 8 (recs (unpackF b).1))]) :
    rnC Try.prog (.reg qa1) Q [(0, .c (.raw v0)), (15, .c (.sl 1 (bys b)))] [] := by
  unfold qa1
  simp only [go_sem, ↓reduceIte, Nat.reduceEqDiff, Nat.reduceMul, Nat.reduceAdd, Nat.reduceDiv, Nat.reduceSub, Nat.reduceLT, Nat.reduceLeDiff, Int.reduceLE, Int.reduceLT, Int.reduceToNat, Int.reduceEq]
  refine callK_O3 (fun _ => cw37 b hb) (by simp only [go_sem, ↓reduceIte, Nat.reduceEqDiff, Nat.reduceMul, Nat.reduceAdd, Nat.reduceDiv, Nat.reduceSub, Nat.reduceLT, Nat.reduceLeDiff, Int.reduceLE, Int.reduceLT, Int.reduceToNat, Int.reduceEq]) rfl rfl ?_
  simp only [go_sem, ↓reduceIte, Nat.reduceEqDiff, Nat.reduceMul, Nat.reduceAdd, Nat.reduceDiv, Nat.reduceSub, Nat.reduceLT, Nat.reduceLeDiff, Int.reduceLE, Int.reduceLT, Int.reduceToNat, Int.reduceEq]
  exact hQ _ ⟨rfl, rfl, rfl, rfl, trivial⟩
theorem wqa2 (b : List UInt8) (hb : b.length < 1000000000000000) (v0 v3 : Value) (x y : Int) (Q : Ex → Slots → LH → Prop) (hQ : ∀ σ, Has σ [(0, .c (.raw v0)), (3, .c (.raw v3)), (4, .c (.int .i64 x)), (5, .c (.int .i64 y)), (6, .c (.sl 8 (recs (unpackF b).1))), (7, .c (.int .i64 (unpackF b).2.1)), (8, .c (.int .i64 (unpackF b).2.2))] → Q .norm σ []) :
    rnC Try.prog (.reg qa2) Q [(0, .c (.raw v0)), (3, .c (.raw v3)), (4, .c (.int .i64 x)), (5, .c (.int .i64 y)), (21, .c (.sl 1 (bys b)))] [] := by
  unfold qa2
  simp only [go_sem, ↓reduceIte, Nat.reduceEqDiff, Nat.reduceMul, Nat.reduceAdd, Nat.reduceDiv, Nat.reduceSub, Nat.reduceLT, Nat.reduceLeDiff, Int.reduceLE, Int.reduceLT, Int.reduceToNat, Int.reduceEq]
  refine callK_3 _ _ _ (fun _ => (cw62 b hb).pubRes3 rfl) (by simp only [go_sem, ↓reduceIte, Nat.reduceEqDiff, Nat.reduceMul, Nat.reduceAdd, Nat.reduceDiv, Nat.reduceSub, Nat.reduceLT, Nat.reduceLeDiff, Int.reduceLE, Int.reduceLT, Int.reduceToNat, Int.reduceEq]) rfl rfl ?_
  simp only [go_sem, ↓reduceIte, Nat.reduceEqDiff, Nat.reduceMul, Nat.reduceAdd, Nat.reduceDiv, Nat.reduceSub, Nat.reduceLT, Nat.reduceLeDiff, Int.reduceLE, Int.reduceLT, Int.reduceToNat, Int.reduceEq]
  repeat (refine ⟨by (first | omega | (intro h1 h2; exact ⟨h1, h2⟩) | (intro h1; omega) | (intro h1; exact h1) | trivial), ?_⟩)
  exact hQ _ ⟨rfl, rfl, rfl, rfl, rfl, rfl, rfl, trivial⟩
theorem wqa3 (b : List UInt8) (hb : b.length < 1000000000000000) (v3 v6 : Value) (x y z t : Int) (Q : Ex → Slots → LH → Prop) (hQ : ∀ σ, Has σ [(3, .c (.raw v3)), (6, .c (.raw v6)), (4, .c (.int .i64 x)), (5, .c (.int .i64 y)), (7, .c (.int .i64 z)), (8, .c (.int .i64 t)), (9, .c (.sl 8 (recs (unpackF b).1)))] → Q .norm σ []) :
    rnC Try.prog (.reg qa3) Q [(3, .c (.raw v3)), (6, .c (.raw v6)), (4, .c (.int .i64 x)), (5, .c (.int .i64 y)), (7, .c (.int .i64 z)), (8, .c (.int .i64 t)), (27, .c (.sl 1 (bys b)))] [] := by
  unfold qa3
  simp only [go_sem, ↓reduceIte, Nat.reduceEqDiff, Nat.reduceMul, Nat.reduceAdd, Nat.reduceDiv, Nat.reduceSub, Nat.reduceLT, Nat.reduceLeDiff, Int.reduceLE, Int.reduceLT, Int.reduceToNat, Int.reduceEq]
  refine callK_3 _ _ _ (fun _ => (cw37 b hb).pubRes3 rfl) (by simp only [go_sem, ↓reduceIte, Nat.reduceEqDiff, Nat.reduceMul, Nat.reduceAdd, Nat.reduceDiv, Nat.reduceSub, Nat.reduceLT, Nat.reduceLeDiff, Int.reduceLE, Int.reduceLT, Int.reduceToNat, Int.reduceEq]) rfl rfl ?_
  simp only [go_sem, ↓reduceIte, Nat.reduceEqDiff, Nat.reduceMul, Nat.reduceAdd, Nat.reduceDiv, Nat.reduceSub, Nat.reduceLT, Nat.reduceLeDiff, Int.reduceLE, Int.reduceLT, Int.reduceToNat, Int.reduceEq]
  repeat (refine ⟨by (first | omega | (intro h1 h2; exact ⟨h1, h2⟩) | (intro h1; omega) | (intro h1; exact h1) | trivial), ?_⟩)
  exact hQ _ ⟨rfl, rfl, rfl, rfl, rfl, rfl, rfl, trivial⟩
theorem wqa4 (l : List Rec) (hl : l.length < 9223372036854775808) (hto : ∀ r ∈ l, r.to.length ≤ 35184372088832) (v3 v6 v9 : Value) (x y : Int) (Q : Ex → Slots → LH → Prop) (hQ : ∀ σ, Has σ [(45, .c (.bool false)), (3, .c (.raw v3)), (6, .c (.raw v6)), (9, .c (.raw v9))] → Q .norm σ []) :
    rnC Try.prog (.reg qa4) Q [(3, .c (.raw v3)), (6, .c (.raw v6)), (9, .c (.raw v9)), (4, .c (.int .i64 x)), (5, .c (.int .i64 y)), (7, .c (.int .i64 x)), (8, .c (.int .i64 y)), (32, .c (.sl 8 (recs l))), (33, .c (.sl 8 (recs l)))] [] := by
  unfold qa4
  simp only [go_sem, ↓reduceIte, Nat.reduceEqDiff, Nat.reduceMul, Nat.reduceAdd, Nat.reduceDiv, Nat.reduceSub, Nat.reduceLT, Nat.reduceLeDiff, Int.reduceLE, Int.reduceLT, Int.reduceToNat, Int.reduceEq]
  refine callK_1 _ (fun _ => cw23 l l hl hl hto hto) (by simp only [go_sem, ↓reduceIte, Nat.reduceEqDiff, Nat.reduceMul, Nat.reduceAdd, Nat.reduceDiv, Nat.reduceSub, Nat.reduceLT, Nat.reduceLeDiff, Int.reduceLE, Int.reduceLT, Int.reduceToNat, Int.reduceEq]) rfl rfl ?_
  simp only [go_sem, ↓reduceIte, Nat.reduceEqDiff, Nat.reduceMul, Nat.reduceAdd, Nat.reduceDiv, Nat.reduceSub, Nat.reduceLT, Nat.reduceLeDiff, Int.reduceLE, Int.reduceLT, Int.reduceToNat, Int.reduceEq]
  repeat (refine ⟨by (first | omega | (intro h1 h2; exact ⟨h1, h2⟩) | (intro h1; omega) | (intro h1; exact h1) | trivial), ?_⟩)
  rw [sameL_self]
  simp only [go_sem, ↓reduceIte, Nat.reduceEqDiff, Nat.reduceMul, Nat.reduceAdd, Nat.reduceDiv, Nat.reduceSub, Nat.reduceLT, Nat.reduceLeDiff, Int.reduceLE, Int.reduceLT, Int.reduceToNat, Int.reduceEq]
  exact hQ _ ⟨by simp [Slots.get], rfl, rfl, rfl, trivial⟩
theorem wqaz (l : List Rec) (hl : l.length < 9223372036854775808) (hto : ∀ r ∈ l, r.to.length ≤ 35184372088832) (Q : Ex → Slots → LH → Prop) (hQ : ∀ σ, Has σ [(2, .c (.bool true))] → Q .norm σ []) :
    rnC Try.prog (.reg qaz) Q [(73, .c (.sl 8 (recs l))), (74, .c (.sl 8 (recs l)))] [] := by
  unfold qaz
  simp only [go_sem, ↓reduceIte, Nat.reduceEqDiff, Nat.reduceMul, Nat.reduceAdd, Nat.reduceDiv, Nat.reduceSub, Nat.reduceLT, Nat.reduceLeDiff, Int.reduceLE, Int.reduceLT, Int.reduceToNat, Int.reduceEq]
  refine callK_1 _ (fun _ => cw23 l l hl hl hto hto) (by simp only [go_sem, ↓reduceIte, Nat.reduceEqDiff, Nat.reduceMul, Nat.reduceAdd, Nat.reduceDiv, Nat.reduceSub, Nat.reduceLT, Nat.reduceLeDiff, Int.reduceLE, Int.reduceLT, Int.reduceToNat, Int.reduceEq]) rfl rfl ?_
  simp only [go_sem, ↓reduceIte, Nat.reduceEqDiff, Nat.reduceMul, Nat.reduceAdd, Nat.reduceDiv, Nat.reduceSub, Nat.reduceLT, Nat.reduceLeDiff, Int.reduceLE, Int.reduceLT, Int.reduceToNat, Int.reduceEq]
  repeat (refine ⟨by (first | omega | (intro h1 h2; exact ⟨h1, h2⟩) | (intro h1; omega) | (intro h1; exact h1) | trivial), ?_⟩)
  rw [sameL_self]
  exact hQ _ ⟨rfl, trivial⟩
section
variable {ι : Nat → Loc} {a : Act} {w : World} {Q : Exit → Act → World → Prop} {ds : List Deferred} {b : List UInt8} {v0 v3 v6 v9 : Value} {x y : Int}
theorem arg_put {d : Nat} {V : Nat → Nat → Prop} (hsz : a.tmps.size = 76) (hd : d < 76) (h0 : a.tmps.getD 0 Go.undef = v0) (hv : VR w V (.sl 1 (bys b)) v0) : VR w V (.sl 1 (bys b)) ((a.put (some d) (a.tmps.getD 0 Go.undef)).tmps.getD d Go.undef) := by
  rw [put_same _ (by rw [hsz]; exact hd), h0]; exact hv
theorem raw_put {d t : Nat} {u v : Value} {V : Nat → Nat → Prop} (hn : d ≠ t) (h : a.tmps.getD t Go.undef = v) : VR w V (.raw v) ((a.put (some d) u).tmps.getD t Go.undef) := by
  rw [put_other _ hn, h]; exact .raw _
theorem int_put {d t : Nat} {u : Value} {n : Int} {V : Nat → Nat → Prop} (hn : d ≠ t) (h : a.tmps.getD t Go.undef = .int .i64 n) : VR w V (.int .i64 n) ((a.put (some d) u).tmps.getD t Go.undef) := by
  rw [put_other _ hn, h]; exact .int _ _
theorem seg1 (hb : b.length < 1000000000000000) {V : Nat → Nat → Prop} (hV : ∀ b {o}, V b o → b < w.heap.size) (hsz : a.tmps.size = 76) (hd : a.defers = ds) (h0 : a.tmps.getD 0 Go.undef = v0) (hv : VR w V (.sl 1 (bys b)) v0)
    (hK : ∀ ι1 S1 a1 w1, R ⟨w, fun _ => False, V, ι, 76, ds⟩ ι1 S1 [(0, .c (.raw v0)), (3, .osl 64 0 (unpackF b).1.length), (4, .c (.int .i64 (unpackF b).2.1)), (5, .c (.int .i64 (unpackF b).2.2))] [(64, .row 8 (recs (unpackF b).1))] a1 w1 → Q .normal a1 w1) :
    (Code.region 1 (y1 Try.f36) false).wp Try.prog Q a w := by
  refine wp_region_list ?_
  rw [y1_l]
  refine op_move y1_0 ?_
  have hR := R.make (a := a.put (some 15) (a.tmps.getD 0 Go.undef)) (ds := ds) (n := 76) (fun _ => False) V ι (l := [(0, .raw v0), (15, .sl 1 (bys b))]) hV (by
    intro p hp
    simp only [List.mem_cons, List.not_mem_nil, or_false] at hp
    rcases hp with rfl | rfl
    all_goals dsimp only
    · exact raw_put (by decide) h0
    · exact arg_put hsz (by decide) h0 hv) (by rw [put_size]; exact hsz) (by rw [put_defers]; exact hd)
  refine ops_sound _ qa1 (by rw [← n36]; exact y1_c) hR (rn_ok (.reg qa1) (fun _ _ _ h => h) (wqa1 b hb v0 (fun e σ H => e = .norm ∧ Has σ [(0, .c (.raw v0)), (3, .osl 64 0 (unpackF b).1.length), (4, .c (.int .i64 (unpackF b).2.1)), (5, .c (.int .i64 (unpackF b).2.2))] ∧ H = [(64, .row 8 (recs (unpackF b).1))]) fun σ h => ⟨rfl, h, rfl⟩)) fun ι1 S1 σ1 H1 a1 w1 hq h1 => ?_
  obtain ⟨_, hs, rfl⟩ := hq
  exact hK ι1 S1 a1 w1 (R.weak h1 hs)
theorem seg2 (hb : b.length < 1000000000000000) {V : Nat → Nat → Prop} (hV : ∀ b {o}, V b o → b < w.heap.size) (hsz : a.tmps.size = 76) (hd : a.defers = ds) (h0 : a.tmps.getD 0 Go.undef = v0) (hv : VR w V (.sl 1 (bys b)) v0) (h3 : a.tmps.getD 3 Go.undef = v3) (h4 : a.tmps.getD 4 Go.undef = .int .i64 x) (h5 : a.tmps.getD 5 Go.undef = .int .i64 y)
    (hK : ∀ ι1 S1 a1 w1, R ⟨w, fun _ => False, V, ι, 76, ds⟩ ι1 S1 [(0, .c (.raw v0)), (3, .c (.raw v3)), (4, .c (.int .i64 x)), (5, .c (.int .i64 y)), (6, .c (.sl 8 (recs (unpackF b).1))), (7, .c (.int .i64 (unpackF b).2.1)), (8, .c (.int .i64 (unpackF b).2.2))] [] a1 w1 → Q .normal a1 w1) :
    (Code.region 2 (y2 Try.f36) false).wp Try.prog Q a w := by
  refine wp_region_list ?_
  rw [y2_l]
  refine op_move y2_0 ?_
  have hR := R.make (a := a.put (some 21) (a.tmps.getD 0 Go.undef)) (ds := ds) (n := 76) (fun _ => False) V ι (l := [(0, .raw v0), (3, .raw v3), (4, .int .i64 x), (5, .int .i64 y), (21, .sl 1 (bys b))]) hV (by
    intro p hp
    simp only [List.mem_cons, List.not_mem_nil, or_false] at hp
    rcases hp with rfl | rfl | rfl | rfl | rfl
    all_goals dsimp only
    · exact raw_put (by decide) h0
    · exact raw_put (by decide) h3
    · exact int_put (by decide) h4
    · exact int_put (by decide) h5
    · exact arg_put hsz (by decide) h0 hv) (by rw [put_size]; exact hsz) (by rw [put_defers]; exact hd)
  refine ops_sound _ qa2 (by rw [← n36]; exact y2_c) hR (rn_ok (.reg qa2) (fun _ _ _ h => h) (wqa2 b hb v0 v3 x y (fun e σ H => e = .norm ∧ Has σ [(0, .c (.raw v0)), (3, .c (.raw v3)), (4, .c (.int .i64 x)), (5, .c (.int .i64 y)), (6, .c (.sl 8 (recs (unpackF b).1))), (7, .c (.int .i64 (unpackF b).2.1)), (8, .c (.int .i64 (unpackF b).2.2))] ∧ H = []) fun σ h => ⟨rfl, h, rfl⟩)) fun ι1 S1 σ1 H1 a1 w1 hq h1 => ?_
  obtain ⟨_, hs, rfl⟩ := hq
  exact hK ι1 S1 a1 w1 (R.weak h1 hs)
theorem seg3 (hb : b.length < 1000000000000000) {V : Nat → Nat → Prop} {z t : Int} (hV : ∀ b {o}, V b o → b < w.heap.size) (hsz : a.tmps.size = 76) (hd : a.defers = ds) (h0 : a.tmps.getD 0 Go.undef = v0) (hv : VR w V (.sl 1 (bys b)) v0) (h3 : a.tmps.getD 3 Go.undef = v3) (h6 : a.tmps.getD 6 Go.undef = v6) (h4 : a.tmps.getD 4 Go.undef = .int .i64 x) (h5 : a.tmps.getD 5 Go.undef = .int .i64 y) (h7 : a.tmps.getD 7 Go.undef = .int .i64 z) (h8 : a.tmps.getD 8 Go.undef = .int .i64 t)
    (hK : ∀ ι1 S1 a1 w1, R ⟨w, fun _ => False, V, ι, 76, ds⟩ ι1 S1 [(3, .c (.raw v3)), (6, .c (.raw v6)), (4, .c (.int .i64 x)), (5, .c (.int .i64 y)), (7, .c (.int .i64 z)), (8, .c (.int .i64 t)), (9, .c (.sl 8 (recs (unpackF b).1)))] [] a1 w1 → Q .normal a1 w1) :
    (Code.region 3 (y3 Try.f36) false).wp Try.prog Q a w := by
  refine wp_region_list ?_
  rw [y3_l]
  refine op_move y3_0 ?_
  have hR := R.make (a := a.put (some 27) (a.tmps.getD 0 Go.undef)) (ds := ds) (n := 76) (fun _ => False) V ι (l := [(3, .raw v3), (6, .raw v6), (4, .int .i64 x), (5, .int .i64 y), (7, .int .i64 z), (8, .int .i64 t), (27, .sl 1 (bys b))]) hV (by
    intro p hp
    simp only [List.mem_cons, List.not_mem_nil, or_false] at hp
    rcases hp with rfl | rfl | rfl | rfl | rfl | rfl | rfl
    all_goals dsimp only
    · exact raw_put (by decide) h3
    · exact raw_put (by decide) h6
    · exact int_put (by decide) h4
    · exact int_put (by decide) h5
    · exact int_put (by decide) h7
    · exact int_put (by decide) h8
    · exact arg_put hsz (by decide) h0 hv) (by rw [put_size]; exact hsz) (by rw [put_defers]; exact hd)
  refine ops_sound _ qa3 (by rw [← n36]; exact y3_c) hR (rn_ok (.reg qa3) (fun _ _ _ h => h) (wqa3 b hb v3 v6 x y z t (fun e σ H => e = .norm ∧ Has σ [(3, .c (.raw v3)), (6, .c (.raw v6)), (4, .c (.int .i64 x)), (5, .c (.int .i64 y)), (7, .c (.int .i64 z)), (8, .c (.int .i64 t)), (9, .c (.sl 8 (recs (unpackF b).1)))] ∧ H = []) fun σ h => ⟨rfl, h, rfl⟩)) fun ι1 S1 σ1 H1 a1 w1 hq h1 => ?_
  obtain ⟨_, hs, rfl⟩ := hq
  exact hK ι1 S1 a1 w1 (R.weak h1 hs)
theorem seg4 {l : List Rec} (hl : l.length < 9223372036854775808) (hto : ∀ r ∈ l, r.to.length ≤ 35184372088832) {V : Nat → Nat → Prop} (hV : ∀ b {o}, V b o → b < w.heap.size) (hsz : a.tmps.size = 76) (hd : a.defers = ds) (h3 : a.tmps.getD 3 Go.undef = v3) (h6 : a.tmps.getD 6 Go.undef = v6) (h9 : a.tmps.getD 9 Go.undef = v9) (h4 : a.tmps.getD 4 Go.undef = .int .i64 x) (h5 : a.tmps.getD 5 Go.undef = .int .i64 y) (h7 : a.tmps.getD 7 Go.undef = .int .i64 x) (h8 : a.tmps.getD 8 Go.undef = .int .i64 y)
    (hv3 : VR w V (.sl 8 (recs l)) v3) (hv6 : VR w V (.sl 8 (recs l)) v6)
    (hK : ∀ ι1 S1 a1 w1, R ⟨w, fun _ => False, V, ι, 76, ds⟩ ι1 S1 [(45, .c (.bool false)), (3, .c (.raw v3)), (6, .c (.raw v6)), (9, .c (.raw v9))] [] a1 w1 → Q .normal a1 w1) :
    (Code.region 4 (y4' Try.f36) false).wp Try.prog Q a w := by
  refine wp_region_list ?_
  rw [y4'_l]
  refine op_move y4'_0 (op_move y4'_1 ?_)
  rw [put_other _ (by decide), h3, h6]
  have e32 : ((a.put (some 32) v3).put (some 33) v6).tmps.getD 32 Go.undef = v3 := by rw [put_other _ (by decide), put_same _ (by rw [hsz]; decide)]
  have e33 : ((a.put (some 32) v3).put (some 33) v6).tmps.getD 33 Go.undef = v6 := by rw [put_same _ (by rw [put_size, hsz]; decide)]
  have e : ∀ t, t ≠ 32 → t ≠ 33 → ((a.put (some 32) v3).put (some 33) v6).tmps.getD t Go.undef = a.tmps.getD t Go.undef := fun t h1 h2 => by rw [put_other _ (Ne.symm h2), put_other _ (Ne.symm h1)]
  have hR := R.make (a := (a.put (some 32) v3).put (some 33) v6) (ds := ds) (n := 76) (fun _ => False) V ι (l := [(3, .raw v3), (6, .raw v6), (9, .raw v9), (4, .int .i64 x), (5, .int .i64 y), (7, .int .i64 x), (8, .int .i64 y), (32, .sl 8 (recs l)), (33, .sl 8 (recs l))]) hV (by
    intro p hp
    simp only [List.mem_cons, List.not_mem_nil, or_false] at hp
    rcases hp with rfl | rfl | rfl | rfl | rfl | rfl | rfl | rfl | rfl
    all_goals dsimp only
    · rw [e _ (by decide) (by decide), h3]; exact .raw _
    · rw [e _ (by decide) (by decide), h6]; exact .raw _
    · rw [e _ (by decide) (by decide), h9]; exact .raw _
    · rw [e _ (by decide) (by decide), h4]; exact .int _ _
    · rw [e _ (by decide) (by decide), h5]; exact .int _ _
    · rw [e _ (by decide) (by decide), h7]; exact .int _ _
    · rw [e _ (by decide) (by decide), h8]; exact .int _ _
    · rw [e32]; exact hv3
    · rw [e33]; exact hv6) (by rw [put_size, put_size]; exact hsz) (by rw [put_defers, put_defers]; exact hd)
  refine ops_sound _ qa4 (by rw [← n36]; exact y4'_c) hR (rn_ok (.reg qa4) (fun _ _ _ h => h) (wqa4 l hl hto v3 v6 v9 x y (fun e σ H => e = .norm ∧ Has σ [(45, .c (.bool false)), (3, .c (.raw v3)), (6, .c (.raw v6)), (9, .c (.raw v9))] ∧ H = []) fun σ h => ⟨rfl, h, rfl⟩)) fun ι1 S1 σ1 H1 a1 w1 hq h1 => ?_
  obtain ⟨_, hs, rfl⟩ := hq
  exact hK ι1 S1 a1 w1 (R.weak h1 hs)
theorem segz {l : List Rec} (hl : l.length < 9223372036854775808) (hto : ∀ r ∈ l, r.to.length ≤ 35184372088832) {V : Nat → Nat → Prop} (hV : ∀ b {o}, V b o → b < w.heap.size) (hsz : a.tmps.size = 76) (hd : a.defers = ds) (h6 : a.tmps.getD 6 Go.undef = v6) (h9 : a.tmps.getD 9 Go.undef = v9)
    (hv9 : VR w V (.sl 8 (recs l)) v9) (hv6 : VR w V (.sl 8 (recs l)) v6) {id : Nat}
    (hK : ∀ ι1 S1 a1 w1, R ⟨w, fun _ => False, V, ι, 76, ds⟩ ι1 S1 [(2, .c (.bool true))] [] a1 w1 → Q .normal a1 w1) :
    (Code.region id (yz Try.f36) false).wp Try.prog Q a w := by
  refine wp_region_list ?_
  rw [yz_l]
  refine op_move yz_0 (op_move yz_1 ?_)
  rw [put_other _ (by decide), h9, h6]
  have e73 : ((a.put (some 73) v9).put (some 74) v6).tmps.getD 73 Go.undef = v9 := by rw [put_other _ (by decide), put_same _ (by rw [hsz]; decide)]
  have e74 : ((a.put (some 73) v9).put (some 74) v6).tmps.getD 74 Go.undef = v6 := by rw [put_same _ (by rw [put_size, hsz]; decide)]
  have hR := R.make (a := (a.put (some 73) v9).put (some 74) v6) (ds := ds) (n := 76) (fun _ => False) V ι (l := [(73, .sl 8 (recs l)), (74, .sl 8 (recs l))]) hV (by
    intro p hp
    simp only [List.mem_cons, List.not_mem_nil, or_false] at hp
    rcases hp with rfl | rfl
    all_goals dsimp only
    · rw [e73]; exact hv9
    · rw [e74]; exact hv6) (by rw [put_size, put_size]; exact hsz) (by rw [put_defers, put_defers]; exact hd)
  refine ops_sound _ qaz (by rw [← n36]; exact yz_c) hR (rn_ok (.reg qaz) (fun _ _ _ h => h) (wqaz l hl hto (fun e σ H => e = .norm ∧ Has σ [(2, .c (.bool true))] ∧ H = []) fun σ h => ⟨rfl, h, rfl⟩)) fun ι1 S1 σ1 H1 a1 w1 hq h1 => ?_
  obtain ⟨_, hs, rfl⟩ := hq
  exact hK ι1 S1 a1 w1 (R.weak h1 hs)
end
def vu0 : IC := (.reg [⟨(some 2), 0, none, .mv (.c (.bool false))⟩])
theorem chk_vu0 : chkC Try.prog Try.f36.ntmps vu0 (seqA (codeOf Try.f36)) = true := by decide +kernel
def vuc : IC := (.cond (.t 45) (.seq (.reg [⟨(some 2), 0, none, .mv (.c (.bool false))⟩]) .ret) .skip)
theorem chk_vuc : chkC Try.prog Try.f36.ntmps vuc (seqB (seqA (seqB (seqB (seqB (seqB (codeOf Try.f36))))))) = true := by decide +kernel
def vu6 : IC := (.reg [⟨(some 12), 0, none, .mv (.c (.int .i64 0))⟩])
theorem chk_vu6 : chkC Try.prog Try.f36.ntmps vu6 (seqA (seqA (seqB (seqB (seqB (seqB (seqB (codeOf Try.f36)))))))) = true := by decide +kernel
def vuh : IC := (.seq (.reg [⟨(some 46), 0, none, .mv (.t 12)⟩,
  ⟨(some 47), 0, none, .mv (.t 3)⟩,
  ⟨(some 48), 0, none, .len false (.t 47)⟩,
  ⟨(some 49), 0, none, .bin .lss (.t 46) (.t 48)⟩]) (.cond (.t 49) .skip (.exit 0)))
theorem chk_vuh : chkC Try.prog Try.f36.ntmps vuh (seqA (loopC (blkC (seqB (seqA (seqB (seqB (seqB (seqB (seqB (codeOf Try.f36))))))))))) = true := by decide +kernel
def vu9 : IC := (.reg [⟨(some 13), 0, none, .mv (.c (.int .i64 0))⟩])
theorem chk_vu9 : chkC Try.prog Try.f36.ntmps vu9 (seqA (seqA (blkC (seqA (seqB (loopC (blkC (seqB (seqA (seqB (seqB (seqB (seqB (seqB (codeOf Try.f36))))))))))))))) = true := by decide +kernel
def vuj : IC := (.cond (.t 59) .skip (.exit 2))
theorem chk_vuj : chkC Try.prog Try.f36.ntmps vuj (seqB (seqA (loopC (blkC (seqB (seqA (blkC (seqA (seqB (loopC (blkC (seqB (seqA (seqB (seqB (seqB (seqB (seqB (codeOf Try.f36))))))))))))))))))) = true := by decide +kernel
def vu11 : IC := (.reg [⟨(some 60), 0, none, .mv (.t 13)⟩,
  ⟨(some 61), 0, none, .bin .add (.t 60) (.c (.int .i64 1))⟩,
  ⟨(some 13), 0, none, .mv (.t 61)⟩])
theorem chk_vu11 : chkC Try.prog Try.f36.ntmps vu11 (seqB (seqB (loopC (blkC (seqB (seqA (blkC (seqA (seqB (loopC (blkC (seqB (seqA (seqB (seqB (seqB (seqB (seqB (codeOf Try.f36))))))))))))))))))) = true := by decide +kernel
def vuk : IC := (.reg [⟨(some 69), 0, none, .mv (.t 3)⟩,
  ⟨(some 70), 0, none, .mv (.t 12)⟩,
  ⟨(some 71), 0, none, .ia (.t 69) (.t 70) 8⟩,
  ⟨(some 72), 0, none, .fa (.t 71) 0⟩,
  ⟨none, 0, none, .st (.t 72) (.c (.int .i64 (-9))) none⟩])
theorem chk_vuk : chkC Try.prog Try.f36.ntmps vuk (seqB (blkC (seqA (seqB (loopC (blkC (seqB (seqA (seqB (seqB (seqB (seqB (seqB (codeOf Try.f36)))))))))))))) = true := by decide +kernel
def vu8 : IC := (.reg [⟨(some 50), 0, none, .mv (.t 12)⟩,
  ⟨(some 51), 0, none, .bin .add (.t 50) (.c (.int .i64 1))⟩,
  ⟨(some 12), 0, none, .mv (.t 51)⟩])
theorem chk_vu8 : chkC Try.prog Try.f36.ntmps vu8 (seqB (seqB (loopC (blkC (seqB (seqA (seqB (seqB (seqB (seqB (seqB (codeOf Try.f36)))))))))))) = true := by decide +kernel
def bodyO (f : Func) : Code := loopC (blkC (seqB (seqA (seqB (seqB (seqB (seqB (seqB (codeOf f))))))))) 
def bodyI (f : Func) : Code := loopC (blkC (seqB (seqA (blkC (seqA (seqB (bodyO f)))))))
def y10 (f : Func) : Array Oper := opsOf (seqA (seqA (bodyI f)))
def y12 (f : Func) : Array Oper := opsOf (blkC (seqA (seqB (bodyI f))))
theorem splitI : bodyI Try.f36 = .seq (.seq (.region 10 (y10 Try.f36) false) (seqB (seqA (bodyI Try.f36)))) (.seq (.block 3 (.region 12 (y12 Try.f36) false)) (seqB (seqB (bodyI Try.f36)))) := by kernel_rfl
theorem splitO : bodyO Try.f36 = .seq (seqA (bodyO Try.f36)) (.seq (.block 1 (.seq (.seq (seqA (seqA (blkC (seqA (seqB (bodyO Try.f36)))))) (.block 2 (.loop (bodyI Try.f36)))) (seqB (blkC (seqA (seqB (bodyO Try.f36))))))) (seqB (seqB (bodyO Try.f36)))) := by kernel_rfl
theorem split36 : codeOf Try.f36 = .seq (seqA (codeOf Try.f36)) (.seq (.region 1 (y1 Try.f36) false) (.seq (.region 2 (y2 Try.f36) false) (.seq (.region 3 (y3 Try.f36) false) (.seq (.seq (.region 4 (y4' Try.f36) false) (seqB (seqA (seqB (seqB (seqB (seqB (codeOf Try.f36)))))))) (.seq (.seq (seqA (seqA (seqB (seqB (seqB (seqB (seqB (codeOf Try.f36)))))))) (.block 0 (.loop (bodyO Try.f36)))) (.seq (.region 14 (yz Try.f36) false) .ret)))))) := by kernel_rfl
theorem y10_l : (y10 Try.f36).toList = (y10 Try.f36).toList.take 6 ++ (at_ (y10 Try.f36) 6 :: (y10 Try.f36).toList.drop 7) := by kernel_rfl
theorem y12_l : (y12 Try.f36).toList = (y12 Try.f36).toList.take 6 ++ [at_ (y12 Try.f36) 6, at_ (y12 Try.f36) 7] := by kernel_rfl
def qb10 : List IOp := [⟨some 52, 0, none, .mv (.t 13)⟩, ⟨some 53, 0, none, .mv (.t 3)⟩, ⟨some 54, 0, none, .mv (.t 12)⟩, ⟨some 55, 0, none, .ia (.t 53) (.t 54) 8⟩, ⟨some 56, 0, none, .fa (.t 55) 4⟩, ⟨some 57, 0, none, .ld (.t 56) none⟩]
def qc10 : List IOp := [⟨some 59, 0, none, .bin .lss (.t 52) (.t 58)⟩]
def qb12 : List IOp := [⟨some 62, 0, none, .mv (.t 3)⟩, ⟨some 63, 0, none, .mv (.t 12)⟩, ⟨some 64, 0, none, .ia (.t 62) (.t 63) 8⟩, ⟨some 65, 0, none, .fa (.t 64) 4⟩, ⟨some 66, 0, none, .ld (.t 65) none⟩, ⟨some 67, 0, none, .mv (.t 13)⟩]
theorem y10_b : chkOps Try.prog Try.f36.ntmps (y10 Try.f36) ((y10 Try.f36).toList.take 6) qb10 = true := by decide +kernel
theorem y10_c : chkOps Try.prog Try.f36.ntmps (y10 Try.f36) ((y10 Try.f36).toList.drop 7) qc10 = true := by decide +kernel
theorem y12_b : chkOps Try.prog Try.f36.ntmps (y12 Try.f36) ((y12 Try.f36).toList.take 6) qb12 = true := by decide +kernel
theorem y10_6 : (at_ (y10 Try.f36) 6).op = .call { callee := .builtin .len, args := #[.tmp 57], argTypes := #[23] } ∧ (at_ (y10 Try.f36) 6).dst = some 58 ∧ (at_ (y10 Try.f36) 6).guard = none := ⟨by kernel_rfl, by kernel_rfl, by kernel_rfl⟩
theorem y12_6 : (at_ (y12 Try.f36) 6).op = .indexAddr 23 (.tmp 66) (.tmp 67) ∧ (at_ (y12 Try.f36) 6).dst = some 68 ∧ (at_ (y12 Try.f36) 6).guard = none := ⟨by kernel_rfl, by kernel_rfl, by kernel_rfl⟩
theorem y12_7 : (at_ (y12 Try.f36) 7).op = .store 21 (.tmp 68) (.const (.int .i32 (-9))) ∧ (at_ (y12 Try.f36) 7).dst = none ∧ (at_ (y12 Try.f36) 7).guard = none := ⟨by kernel_rfl, by kernel_rfl, by kernel_rfl⟩
def mark9 (r : Rec) : Rec := { r with kind := -9 }
def rowK (l : List Rec) (f : Nat → Option Addr × Nat × Nat) (i : Nat) : List CV := (List.range l.length).map fun k => recV (if k < i then mark9 (l.getD k noRec) else l.getD k noRec) (f k)
theorem rowK_len (l : List Rec) (f : Nat → Option Addr × Nat × Nat) (i : Nat) : (rowK l f i).length = l.length := by simp [rowK]
theorem rowK_at {l : List Rec} {f : Nat → Option Addr × Nat × Nat} {i : Nat} (h : i < l.length) : (rowK l f i).getD i .undef = recV (l.getD i noRec) (f i) := by
  simp [rowK, List.getD_eq_getElem?_getD, h]
theorem rowK_set {l : List Rec} {f : Nat → Option Addr × Nat × Nat} {i : Nat} (h : i < l.length) : (rowK l f i).set i (recV (mark9 (l.getD i noRec)) (f i)) = rowK l f (i + 1) := by
  apply List.ext_getElem?
  intro k
  rw [List.getElem?_set]
  by_cases hk : i = k
  · subst hk
    simp [rowK, h]
  · rw [if_neg hk]
    by_cases hl : k < l.length
    · have : (k < i) = (k < i + 1) := propext ⟨fun h => by omega, fun h => by omega⟩
      simp [rowK, hl, this]
    · simp [rowK, hl]
def sL (n : Nat) (v6 v9 : Value) (i : Nat) : Slots := [(3, .osl 64 0 n), (6, .c (.raw v6)), (9, .c (.raw v9)), (12, .c (.int .i64 i))]
def sI (n : Nat) (v6 v9 : Value) (i j : Nat) : Slots := (13, .c (.int .i64 j)) :: sL n v6 v9 i
def hL (l : List Rec) (f : Nat → Option Addr × Nat × Nat) (i : Nat) : LH := [(64, .row 8 (rowK l f i))]
section
variable (l : List Rec) (f : Nat → Option Addr × Nat × Nat) (v6 v9 : Value) (i j : Nat) (Q : Ex → Slots → LH → Prop)
theorem wvuh (h1 : i < l.length → ∀ σ, Has σ (sL l.length v6 v9 i) → Q .norm σ (hL l f i)) (h2 : l.length ≤ i → ∀ σ, Has σ (sL l.length v6 v9 i) → Q (.exit 0) σ (hL l f i)) : rnC Try.prog vuh Q (sL l.length v6 v9 i) (hL l f i) := by
  unfold vuh sL hL
  simp only [go_sem, ↓reduceIte, Nat.reduceEqDiff, Nat.reduceMul, Nat.reduceAdd, Nat.reduceDiv, Nat.reduceSub, Nat.reduceLT, Nat.reduceLeDiff, Int.reduceLE, Int.reduceLT, Int.reduceToNat, Int.reduceEq]
  exact ⟨fun h => h1 (by omega) _ ⟨rfl, rfl, rfl, rfl, trivial⟩, fun h => h2 (by omega) _ ⟨rfl, rfl, rfl, rfl, trivial⟩⟩
theorem wvu9 (h1 : ∀ σ, Has σ (sI l.length v6 v9 i 0) → Q .norm σ (hL l f i)) : rnC Try.prog vu9 Q (sL l.length v6 v9 i) (hL l f i) := by
  unfold vu9 sL hL
  simp only [go_sem, ↓reduceIte, Nat.reduceEqDiff, Nat.reduceMul, Nat.reduceAdd, Nat.reduceDiv, Nat.reduceSub, Nat.reduceLT, Nat.reduceLeDiff, Int.reduceLE, Int.reduceLT, Int.reduceToNat, Int.reduceEq]
  exact h1 _ ⟨rfl, rfl, rfl, rfl, rfl, trivial⟩
theorem wqb10 (hi : i < l.length) (h1 : ∀ σ, Has σ ((57, .c (.rsl (f i).1 (f i).2.1 (f i).2.2)) :: (52, .c (.int .i64 j)) :: sI l.length v6 v9 i j) → Q .norm σ (hL l f i)) : rnC Try.prog (.reg qb10) Q (sI l.length v6 v9 i j) (hL l f i) := by
  unfold qb10 sI sL hL
  simp only [go_sem, ↓reduceIte, Nat.reduceEqDiff, Nat.reduceMul, Nat.reduceAdd, Nat.reduceDiv, Nat.reduceSub, Nat.reduceLT, Nat.reduceLeDiff, Int.reduceLE, Int.reduceLT, Int.reduceToNat, Int.reduceEq]
  refine ⟨by omega, ?_⟩
  rw [rowK_at hi]
  exact h1 _ ⟨rfl, rfl, rfl, rfl, rfl, rfl, rfl, trivial⟩
theorem wqc10 (m : Nat) (h1 : ∀ σ, Has σ ((59, .c (.bool (decide ((j : Int) < m)))) :: sI l.length v6 v9 i j) → Q .norm σ (hL l f i)) : rnC Try.prog (.reg qc10) Q ((58, .c (.int .i64 m)) :: (52, .c (.int .i64 j)) :: sI l.length v6 v9 i j) (hL l f i) := by
  unfold qc10 sI sL hL
  simp only [go_sem, ↓reduceIte, Nat.reduceEqDiff, Nat.reduceMul, Nat.reduceAdd, Nat.reduceDiv, Nat.reduceSub, Nat.reduceLT, Nat.reduceLeDiff, Int.reduceLE, Int.reduceLT, Int.reduceToNat, Int.reduceEq]
  exact h1 _ ⟨rfl, rfl, rfl, rfl, rfl, rfl, trivial⟩
theorem wvuj (m : Nat) (h1 : j < m → ∀ σ, Has σ (sI l.length v6 v9 i j) → Q .norm σ (hL l f i)) (h2 : m ≤ j → ∀ σ, Has σ (sL l.length v6 v9 i) → Q (.exit 2) σ (hL l f i)) : rnC Try.prog vuj Q ((59, .c (.bool (decide ((j : Int) < m)))) :: sI l.length v6 v9 i j) (hL l f i) := by
  unfold vuj sI sL hL
  simp only [go_sem, ↓reduceIte, Nat.reduceEqDiff, Nat.reduceMul, Nat.reduceAdd, Nat.reduceDiv, Nat.reduceSub, Nat.reduceLT, Nat.reduceLeDiff, Int.reduceLE, Int.reduceLT, Int.reduceToNat, Int.reduceEq]
  exact ⟨fun h => h1 (by omega) _ ⟨rfl, rfl, rfl, rfl, rfl, trivial⟩, fun h => h2 (by omega) _ ⟨rfl, rfl, rfl, rfl, trivial⟩⟩
theorem wqb12 (hi : i < l.length) (h1 : ∀ σ, Has σ ((66, .c (.rsl (f i).1 (f i).2.1 (f i).2.2)) :: (67, .c (.int .i64 j)) :: sI l.length v6 v9 i j) → Q .norm σ (hL l f i)) : rnC Try.prog (.reg qb12) Q (sI l.length v6 v9 i j) (hL l f i) := by
  unfold qb12 sI sL hL
  simp only [go_sem, ↓reduceIte, Nat.reduceEqDiff, Nat.reduceMul, Nat.reduceAdd, Nat.reduceDiv, Nat.reduceSub, Nat.reduceLT, Nat.reduceLeDiff, Int.reduceLE, Int.reduceLT, Int.reduceToNat, Int.reduceEq]
  refine ⟨by omega, ?_⟩
  rw [rowK_at hi]
  exact h1 _ ⟨rfl, rfl, rfl, rfl, rfl, rfl, rfl, trivial⟩
theorem wvu11 (hj : j < 9223372036854775807) (h1 : ∀ σ, Has σ (sI l.length v6 v9 i (j + 1)) → Q .norm σ (hL l f i)) : rnC Try.prog vu11 Q (sI l.length v6 v9 i j) (hL l f i) := by
  unfold vu11 sI sL hL
  have e : IntKind.i64.wrap ((j : Int) + 1) = ((j + 1 : Nat) : Int) := by rw [wrap_i64]; omega
  simp only [go_sem, ↓reduceIte, Nat.reduceEqDiff, Nat.reduceMul, Nat.reduceAdd, Nat.reduceDiv, Nat.reduceSub, Nat.reduceLT, Nat.reduceLeDiff, Int.reduceLE, Int.reduceLT, Int.reduceToNat, Int.reduceEq, e]
  exact h1 _ ⟨rfl, rfl, rfl, rfl, rfl, trivial⟩
theorem wvuk (hi : i < l.length) (h1 : ∀ σ, Has σ (sL l.length v6 v9 i) → Q .norm σ (hL l f (i + 1))) : rnC Try.prog vuk Q (sL l.length v6 v9 i) (hL l f i) := by
  unfold vuk sL hL
  simp only [go_sem, ↓reduceIte, Nat.reduceEqDiff, Nat.reduceMul, Nat.reduceAdd, Nat.reduceDiv, Nat.reduceSub, Nat.reduceLT, Nat.reduceLeDiff, Int.reduceLE, Int.reduceLT, Int.reduceToNat, Int.reduceEq]
  refine ⟨by omega, ?_⟩
  rw [rowK_at hi]
  have := h1 ((72, .eptr 64 i 0) :: (71, .eptr 64 i 0) :: (70, .c (.int .i64 i)) :: (69, .osl 64 0 l.length) :: sL l.length v6 v9 i) ⟨rfl, rfl, rfl, rfl, trivial⟩
  rw [hL, ← rowK_set hi] at this
  exact this
theorem wvu8 (hi : i < l.length) (hn : l.length < 9223372036854775807) (h1 : ∀ σ, Has σ (sL l.length v6 v9 (i + 1)) → Q .norm σ (hL l f (i + 1))) : rnC Try.prog vu8 Q (sL l.length v6 v9 i) (hL l f (i + 1)) := by
  unfold vu8 sL hL
  have e : IntKind.i64.wrap ((i : Int) + 1) = ((i + 1 : Nat) : Int) := by rw [wrap_i64]; omega
  simp only [go_sem, ↓reduceIte, Nat.reduceEqDiff, Nat.reduceMul, Nat.reduceAdd, Nat.reduceDiv, Nat.reduceSub, Nat.reduceLT, Nat.reduceLeDiff, Int.reduceLE, Int.reduceLT, Int.reduceToNat, Int.reduceEq, e]
  exact h1 _ ⟨rfl, rfl, rfl, rfl, trivial⟩
end
section
variable {C : Ctx} {ι ι' : Nat → Loc} {S S' : Nat → Nat → Prop} {σ σ' : Slots} {H H' : LH} {a a' : Act} {w w' : World} {l : List Rec} {f : Nat → Option Addr × Nat × Nat} {v6 v9 : Value} {Q : Exit → Act → World → Prop}
def LiesOff (C : Ctx) (ι : Nat → Loc) (S : Nat → Nat → Prop) (H : LH) (w : World) (l : List Rec) (f : Nat → Option Addr × Nat × Nat) : Prop :=
  ∀ i j, i < l.length → j < (l.getD i noRec).to.length → ∃ b off, (f i).1 = some ⟨b, off, none⟩ ∧ Hid ι S H w b ∧ C.O b ∧ (∃ x, w.cell? ⟨b, off + j, none⟩ = some x) ∧ w.frozen? ⟨b, off + j, none⟩ = false
theorem LiesOff.step {D : Ctx} (h : LiesOff C ι S H w l f) (h' : R (D.now w ι S H) ι' S' σ' H' a' w') : LiesOff C ι' S' H' w' l f := fun i j hi hj => by
  obtain ⟨b, off, e, hh, ho, ⟨x, hx⟩, hz⟩ := h i j hi hj
  obtain ⟨h1, h2⟩ := hh.step h'
  exact ⟨b, off, e, h1, ho, ⟨x, by rw [cell_block h2]; exact hx⟩, by rw [frozen_block h2]; exact hz⟩
theorem R.hidO (h : R C ι S σ H a w) {m : Nat} (hm : Hid ι S H w m) (hC : C.O m) (hb : ∀ b, b ≠ m → w'.heap[b]? = w.heap[b]?) (hsz : w'.heap.size = w.heap.size) (h1 : w'.os = w.os) (h2 : w'.tape = w.tape) (h3 : w'.output = w.output) : R C ι S σ H a w' := by
  refine h.upd ⟨h1.trans h.fr.os, h2.trans h.fr.tape, h3.trans h.fr.output, by rw [hsz]; exact h.fr.size, fun k hk hO => ?_⟩
    (fun i o e => ⟨o, e, Kept.refl _ _ _⟩) (fun b o x hs hx => ⟨hs, ?_⟩) (fun _ _ h => h)
    (fun i => .inl ⟨rfl, rfl, fun ho => ?_⟩) h.hr.inj h.hr.disj (fun i hi => by rw [hsz]; exact h.hr.lt i hi) (fun b _ hb => by rw [hsz]; exact h.hr.slt b hb) h.own (h.sup' fun b _ hs => hb b (fun e => hm.2.1 (e ▸ hs))) h.loc
  · rw [hb k (fun e => hO (e ▸ hC))]; exact h.fr.block k hk hO
  · rw [cell_block (hb b (fun e => hm.2.1 (e ▸ hs)))]; exact hx
  · exact hb _ (fun e => hm.2.2 ⟨i, ho, e⟩)
theorem noL {i : Nat} : ∀ id ob, argBase ≤ id → LH.get (hL l f i) id = some ob → ¬ ob.own := fun id ob hge hg => by
  unfold argBase at hge
  simp only [hL, LH.get, if_neg (show ¬64 = id by omega)] at hg
  cases hg
theorem slot_rsl {t : Nat} {p : Option Addr} {n c : Nat} (h : R C ι S σ H a w) (hs : Slots.get σ t = .c (.rsl p n c)) : a.tmps.getD t Go.undef = .slice p n c := by
  have := h.sl t
  rw [hs] at this
  have := avr_c this
  generalize a.tmps.getD t Go.undef = u at this
  cases this
  rfl
theorem run_len {o : Oper} {t : Nat} {p : Option Addr} {n c : Nat} (ho : o.op = .call { callee := .builtin .len, args := #[.tmp t], argTypes := #[23] }) (he : a.tmps.getD t Go.undef = .slice p n c) : (execOp a.eval o).run Try.prog w = .ok (.value (.int .i64 n)) w := by
  have he : a.eval (.tmp t) = .slice p n c := he
  simp [execOp, ho, resolve, invoke, builtin, Builtin.len_, he, run_underlying Try.underlying23, goInt, pure, Sem.run, Sem.run_bind]
theorem sz21 : szOf Try.prog 21 = some 1 := by kernel_rfl
theorem rgn10 {i j : Nat} (hn : C.n = Try.f36.ntmps) (hi : i < l.length) (hR : R C ι S (sI l.length v6 v9 i j) (hL l f i) a w) (hA : LiesOff C ι S (hL l f i) w l f)
    (hK : ∀ ι' S' a' w', R C ι' S' ((59, .c (.bool (decide ((j : Int) < (f i).2.1)))) :: sI l.length v6 v9 i j) (hL l f i) a' w' → LiesOff C ι' S' (hL l f i) w' l f → Q .normal a' w') : (Code.region 10 (y10 Try.f36) false).wp Try.prog Q a w := by
  refine wp_region_list ?_
  rw [y10_l]
  refine opsP_sound (C := C.now w ι S (hL l f i)) _ qb10 (by show chkOps _ C.n _ _ _ = true; rw [hn]; exact y10_b) hR.rebase (rn_ok (.reg qb10) (fun _ _ _ h => h) (wqb10 l f v6 v9 i j (fun e σ H => e = .norm ∧ Has σ ((57, .c (.rsl (f i).1 (f i).2.1 (f i).2.2)) :: (52, .c (.int .i64 j)) :: sI l.length v6 v9 i j) ∧ H = hL l f i) hi fun σ h => ⟨rfl, h, rfl⟩)) fun ι3 S3 σ3 H3 a3 w3 hq h3 => ?_
  obtain ⟨_, hs, rfl⟩ := hq
  have A3 := hA.step h3
  have h3 := R.unbase hR.base h3 noL
  refine op_val y10_6.2.2 (run_len y10_6.1 (slot_rsl h3 hs.1)) ?_
  rw [y10_6.2.1]
  have h5 := h3.put (d := some 58) (av := .c (.int .i64 (f i).2.1)) (v := .int .i64 (f i).2.1) (.c _ _ (.int _ _)) (fun k hk => by injection hk with hk; subst hk; rw [hn, n36]; decide)
  have h6 := R.weak (l := (58, .c (.int .i64 (f i).2.1)) :: (52, .c (.int .i64 j)) :: sI l.length v6 v9 i j) h5 ⟨rfl, hs.2⟩
  refine ops_sound (C := C.now w3 ι3 S3 (hL l f i)) _ qc10 (by show chkOps _ C.n _ _ _ = true; rw [hn]; exact y10_c) h6.rebase (rn_ok (.reg qc10) (fun _ _ _ h => h) (wqc10 l f v6 v9 i j (fun e σ H => e = .norm ∧ Has σ ((59, .c (.bool (decide ((j : Int) < (f i).2.1)))) :: sI l.length v6 v9 i j) ∧ H = hL l f i) (f i).2.1 fun σ h => ⟨rfl, h, rfl⟩)) fun ι7 S7 σ7 H7 a7 w7 hq h7 => ?_
  obtain ⟨_, hs7, rfl⟩ := hq
  exact hK ι7 S7 a7 w7 (R.weak (R.unbase h6.base h7 noL) hs7) (A3.step h7)
theorem rgn12 {i j : Nat} (hn : C.n = Try.f36.ntmps) (hi : i < l.length) (hj : j < (l.getD i noRec).to.length) (hf : (f i).2.1 = (l.getD i noRec).to.length) (hR : R C ι S (sI l.length v6 v9 i j) (hL l f i) a w) (hA : LiesOff C ι S (hL l f i) w l f)
    (hK : ∀ ι' S' a' w', R C ι' S' (sI l.length v6 v9 i j) (hL l f i) a' w' → LiesOff C ι' S' (hL l f i) w' l f → Q .normal a' w') : (Code.region 12 (y12 Try.f36) false).wp Try.prog Q a w := by
  refine wp_region_list ?_
  rw [y12_l]
  refine opsP_sound (C := C.now w ι S (hL l f i)) _ qb12 (by show chkOps _ C.n _ _ _ = true; rw [hn]; exact y12_b) hR.rebase (rn_ok (.reg qb12) (fun _ _ _ h => h) (wqb12 l f v6 v9 i j (fun e σ H => e = .norm ∧ Has σ ((66, .c (.rsl (f i).1 (f i).2.1 (f i).2.2)) :: (67, .c (.int .i64 j)) :: sI l.length v6 v9 i j) ∧ H = hL l f i) hi fun σ h => ⟨rfl, h, rfl⟩)) fun ι3 S3 σ3 H3 a3 w3 hq h3 => ?_
  obtain ⟨_, hs, rfl⟩ := hq
  have A3 := hA.step h3
  have h3 := R.unbase hR.base h3 noL
  obtain ⟨b, off, e1, hh, ho, ⟨x, hx⟩, hz⟩ := A3 i j hi hj
  have e66 := slot_rsl h3 hs.1
  rw [e1] at e66
  have e67 := slot_i64 h3 hs.2.1
  have e66' : a3.eval (.tmp 66) = .slice (some ⟨b, off, none⟩) (f i).2.1 (f i).2.2 := e66
  have e67' : a3.eval (.tmp 67) = .int .i64 j := e67
  refine op_val (v := .pointer (some ⟨b, off + (j : Int).toNat * 1, none⟩)) (w' := w3) y12_6.2.2 (by
    simp only [execOp, y12_6.1, e66', e67']
    exact runV (run_indexAt Try.underlying23 sz21 _ _ _ _ _ _ (by omega) (by rw [hf]; omega))) ?_
  rw [y12_6.2.1]
  have hsz : 68 < a3.tmps.size := by rw [h3.size, hn, n36]; decide
  have e68 : (a3.put (some 68) (.pointer (some ⟨b, off + (j : Int).toNat * 1, none⟩))).eval (.tmp 68) = .pointer (some ⟨b, off + j, none⟩) := by
    show (a3.put _ _).tmps.getD 68 Go.undef = _
    rw [put_same _ hsz]; simp
  have hrun := run_storeAt (P := Try.prog) (w := w3) sz21 (b := b) (p := off + j) (v := .int .i32 (-9)) rfl (by simp [Value.cells, Value.oneCell']) (fun k hk => ⟨x, by rw [show off + j + k = off + j by omega]; exact hx⟩) (fun k hk => by rw [show off + j + k = off + j by omega]; exact hz)
  refine op_skip (w' := w3.setCells b (off + j) (Value.cells (.int .i32 (-9))).toList) y12_7.2.2 y12_7.2.1 (by
    simp only [execOp, y12_7.1, e68]
    show (_ >>= _ : Sem _).run _ _ = _
    rw [Sem.run_bind]
    show Result.andThen ((Instr.storeAt 21 (.pointer (some ⟨b, off + j, none⟩)) (.int .i32 (-9))).run Try.prog w3) _ = _
    rw [hrun]
    simp [pure, Sem.run]) ?_
  obtain ⟨z1, z2, z3, z4, z5⟩ := heap_setCells b (Value.cells (.int .i32 (-9))).toList (off + j) w3
  have h4 := (R.weak (l := sI l.length v6 v9 i j) h3 hs.2.2).hidO (w' := w3.setCells b (off + j) (Value.cells (.int .i32 (-9))).toList) hh ho z2 z1 z3 z4 z5
  have h5 := h4.put (d := some 68) (av := .c .undef) (v := .pointer (some ⟨b, off + (j : Int).toNat * 1, none⟩)) (AVR.undef _) (fun k hk => by injection hk with hk; subst hk; rw [hn, n36]; decide)
  have h6 := R.weak (l := sI l.length v6 v9 i j) h5 ⟨rfl, rfl, rfl, rfl, rfl, trivial⟩
  unfold wpList
  refine hK _ _ _ _ h6 fun i' j' hi' hj' => ?_
  obtain ⟨b', off', e1', hh', ho', ⟨x', hx'⟩, hz'⟩ := A3 i' j' hi' hj'
  refine ⟨b', off', e1', ⟨by rw [z1]; exact hh'.1, hh'.2⟩, ho', ?_, by rw [World.frozen?_setCells]; exact hz'⟩
  by_cases hb : b' = b
  · subst hb
    rw [cell_setCells (w := w3) b' (off + j) _ (fun k hk => ⟨x, by
      have hk : k < 1 := hk
      rw [show off + j + k = off + j by omega]; exact hx⟩)]
    split
    · exact ⟨_, rfl⟩
    · exact ⟨_, hx'⟩
  · exact ⟨x', by rw [cell_block (z2 b' hb)]; exact hx'⟩
theorem loopI {i : Nat} (hn : C.n = Try.f36.ntmps) (hi : i < l.length) (hf : (f i).2.1 = (l.getD i noRec).to.length) (hto : (l.getD i noRec).to.length < 9223372036854775807)
    (hK : ∀ ι' S' a' w', R C ι' S' (sL l.length v6 v9 i) (hL l f i) a' w' → LiesOff C ι' S' (hL l f i) w' l f → Q (.exit 2) a' w') :
    ∀ (k j : Nat) (ι : Nat → Loc) (S : Nat → Nat → Prop) (a : Act) (w : World), (l.getD i noRec).to.length - j < k → j ≤ (l.getD i noRec).to.length → R C ι S (sI l.length v6 v9 i j) (hL l f i) a w → LiesOff C ι S (hL l f i) w l f →
      LoopFrom Try.prog (bodyI Try.f36) Q a w := by
  intro k
  induction k with
  | zero => intro j _ _ _ _ h; omega
  | succ k ih =>
    intro j ι S a w hk hj hR hA
    refine LoopFrom.round ?_
    rw [splitI]
    refine wp_seq (wp_seq (rgn10 hn hi hR hA fun ι1 S1 a1 w1 h1 A1 => ?_))
    rw [hf] at h1
    refine code_sound (C := C.now w1 ι1 S1 (hL l f i)) vuj _ (by show chkC _ C.n _ _ = true; rw [hn]; exact chk_vuj) h1.rebase (rn_ok _ (fun _ _ _ h => h) (wvuj l f v6 v9 i j (fun e σ H => (e = .norm ∧ j < (l.getD i noRec).to.length ∧ Has σ (sI l.length v6 v9 i j) ∧ H = hL l f i) ∨ (e = .exit 2 ∧ Has σ (sL l.length v6 v9 i) ∧ H = hL l f i)) _ (fun hlt σ h => .inl ⟨rfl, hlt, h, rfl⟩) fun _ σ h => .inr ⟨rfl, h, rfl⟩)) fun e ι2 S2 σ2 H2 a2 w2 hq h2 => ?_
    rcases hq with ⟨rfl, hlt, hs2, rfl⟩ | ⟨rfl, hs2, rfl⟩
    rotate_left
    · exact hK _ _ _ _ (R.weak (R.unbase h1.base h2 noL) hs2) (A1.step h2)
    have A2 := A1.step h2
    have h2 := R.weak (R.unbase h1.base h2 noL) hs2
    refine wp_seq (wp_block (rgn12 hn hi hlt hf h2 A2 fun ι3 S3 a3 w3 h3 A3 => ?_))
    refine code_sound (C := C.now w3 ι3 S3 (hL l f i)) vu11 _ (by show chkC _ C.n _ _ = true; rw [hn]; exact chk_vu11) h3.rebase (rn_ok _ (fun _ _ _ h => h) (wvu11 l f v6 v9 i j (fun e σ H => e = .norm ∧ Has σ (sI l.length v6 v9 i (j + 1)) ∧ H = hL l f i) (by omega) fun σ h => ⟨rfl, h, rfl⟩)) fun e ι4 S4 σ4 H4 a4 w4 hq h4 => ?_
    obtain ⟨rfl, hs4, rfl⟩ := hq
    exact ih (j + 1) ι4 S4 a4 w4 (by omega) (by omega) (R.weak (R.unbase h3.base h4 noL) hs4) (A3.step h4)
theorem loopO (hn : C.n = Try.f36.ntmps) (hl : l.length < 9223372036854775807) (hf : ∀ i, i < l.length → (f i).2.1 = (l.getD i noRec).to.length) (hto : ∀ i, i < l.length → (l.getD i noRec).to.length < 9223372036854775807)
    (hK : ∀ ι' S' a' w' i, R C ι' S' (sL l.length v6 v9 i) (hL l f i) a' w' → Q (.exit 0) a' w') :
    ∀ (k i : Nat) (ι : Nat → Loc) (S : Nat → Nat → Prop) (a : Act) (w : World), l.length - i < k → i ≤ l.length → R C ι S (sL l.length v6 v9 i) (hL l f i) a w → LiesOff C ι S (hL l f i) w l f →
      LoopFrom Try.prog (bodyO Try.f36) Q a w := by
  intro k
  induction k with
  | zero => intro i _ _ _ _ h; omega
  | succ k ih =>
    intro i ι S a w hk hi hR hA
    refine LoopFrom.round ?_
    rw [splitO]
    refine wp_seq (code_sound (C := C.now w ι S (hL l f i)) vuh _ (by show chkC _ C.n _ _ = true; rw [hn]; exact chk_vuh) hR.rebase (rn_ok _ (fun _ _ _ h => h) (wvuh l f v6 v9 i (fun e σ H => (e = .norm ∧ i < l.length ∧ Has σ (sL l.length v6 v9 i) ∧ H = hL l f i) ∨ (e = .exit 0 ∧ Has σ (sL l.length v6 v9 i) ∧ H = hL l f i)) (fun hlt σ h => .inl ⟨rfl, hlt, h, rfl⟩) fun _ σ h => .inr ⟨rfl, h, rfl⟩)) fun e ι1 S1 σ1 H1 a1 w1 hq h1 => ?_)
    rcases hq with ⟨rfl, hlt, hs1, rfl⟩ | ⟨rfl, hs1, rfl⟩
    rotate_left
    · exact hK _ _ _ _ i (R.weak (R.unbase hR.base h1 noL) hs1)
    have A1 := hA.step h1
    have h1 := R.weak (R.unbase hR.base h1 noL) hs1
    refine wp_seq (wp_block (wp_seq (wp_seq (code_sound (C := C.now w1 ι1 S1 (hL l f i)) vu9 _ (by show chkC _ C.n _ _ = true; rw [hn]; exact chk_vu9) h1.rebase (rn_ok _ (fun _ _ _ h => h) (wvu9 l f v6 v9 i (fun e σ H => e = .norm ∧ Has σ (sI l.length v6 v9 i 0) ∧ H = hL l f i) fun σ h => ⟨rfl, h, rfl⟩)) fun e ι2 S2 σ2 H2 a2 w2 hq h2 => ?_))))
    obtain ⟨rfl, hs2, rfl⟩ := hq
    have A2 := A1.step h2
    have h2 := R.weak (R.unbase h1.base h2 noL) hs2
    refine wp_block (LoopFrom.loop ?_)
    refine loopI hn hlt (hf i hlt) (hto i hlt) (fun ι3 S3 a3 w3 h3 A3 => ?_) _ 0 ι2 S2 a2 w2 (Nat.lt_succ_self _) (Nat.zero_le _) h2 A2
    show Code.wp Try.prog (seqB (blkC (seqA (seqB (bodyO Try.f36))))) _ a3 w3
    refine code_sound (C := C.now w3 ι3 S3 (hL l f i)) vuk _ (by show chkC _ C.n _ _ = true; rw [hn]; exact chk_vuk) h3.rebase (rn_ok _ (fun _ _ _ h => h) (wvuk l f v6 v9 i (fun e σ H => e = .norm ∧ Has σ (sL l.length v6 v9 i) ∧ H = hL l f (i + 1)) hlt fun σ h => ⟨rfl, h, rfl⟩)) fun e ι4 S4 σ4 H4 a4 w4 hq h4 => ?_
    obtain ⟨rfl, hs4, rfl⟩ := hq
    have A4 := A3.step h4
    have h4 := R.weak (R.unbase h3.base h4 noL) hs4
    show Code.wp Try.prog (seqB (seqB (bodyO Try.f36))) _ a4 w4
    refine code_sound (C := C.now w4 ι4 S4 (hL l f (i + 1))) vu8 _ (by show chkC _ C.n _ _ = true; rw [hn]; exact chk_vu8) h4.rebase (rn_ok _ (fun _ _ _ h => h) (wvu8 l f v6 v9 i (fun e σ H => e = .norm ∧ Has σ (sL l.length v6 v9 (i + 1)) ∧ H = hL l f (i + 1)) hlt hl fun σ h => ⟨rfl, h, rfl⟩)) fun e ι5 S5 σ5 H5 a5 w5 hq h5 => ?_
    obtain ⟨rfl, hs5, rfl⟩ := hq
    exact ih (i + 1) ι5 S5 a5 w5 (by omega) hlt (R.weak (R.unbase h4.base h5 noL) hs5) (A4.step h5)
end
def rs36 : List (Nat × Option Nat × Mode) := [(2, none, .plain)]
theorem wvu0 (v0 : Value) (Q : Ex → Slots → LH → Prop) (hQ : ∀ σ, Has σ [(0, .c (.raw v0))] → Q .norm σ []) : rnC Try.prog vu0 Q [(0, .c (.raw v0))] [] := by
  unfold vu0
  simp only [go_sem, ↓reduceIte, Nat.reduceEqDiff, Nat.reduceMul, Nat.reduceAdd, Nat.reduceDiv, Nat.reduceSub, Nat.reduceLT, Nat.reduceLeDiff, Int.reduceLE, Int.reduceLT, Int.reduceToNat, Int.reduceEq]
  exact hQ _ ⟨rfl, trivial⟩
theorem wvuc (v3 v6 v9 : Value) (Q : Ex → Slots → LH → Prop) (hQ : ∀ σ, Has σ [(3, .c (.raw v3)), (6, .c (.raw v6)), (9, .c (.raw v9))] → Q .norm σ []) : rnC Try.prog vuc Q [(45, .c (.bool false)), (3, .c (.raw v3)), (6, .c (.raw v6)), (9, .c (.raw v9))] [] := by
  unfold vuc
  simp only [go_sem, ↓reduceIte, Nat.reduceEqDiff, Nat.reduceMul, Nat.reduceAdd, Nat.reduceDiv, Nat.reduceSub, Nat.reduceLT, Nat.reduceLeDiff, Int.reduceLE, Int.reduceLT, Int.reduceToNat, Int.reduceEq]
  exact hQ _ ⟨rfl, rfl, rfl, trivial⟩
theorem wvu6 (v3 v6 v9 : Value) (Q : Ex → Slots → LH → Prop) (hQ : ∀ σ, Has σ [(3, .c (.raw v3)), (6, .c (.raw v6)), (9, .c (.raw v9)), (12, .c (.int .i64 (0 : Nat)))] → Q .norm σ []) : rnC Try.prog vu6 Q [(3, .c (.raw v3)), (6, .c (.raw v6)), (9, .c (.raw v9))] [] := by
  unfold vu6
  simp only [go_sem, ↓reduceIte, Nat.reduceEqDiff, Nat.reduceMul, Nat.reduceAdd, Nat.reduceDiv, Nat.reduceSub, Nat.reduceLT, Nat.reduceLeDiff, Int.reduceLE, Int.reduceLT, Int.reduceToNat, Int.reduceEq]
  exact hQ _ ⟨rfl, rfl, rfl, rfl, trivial⟩
section
variable {C : Ctx} {ι ι' : Nat → Loc} {S S' : Nat → Nat → Prop} {σ σ' : Slots} {H H' : LH} {a a' : Act} {w w' : World}
theorem R.wide (h : R C ι S σ H a w) {O : Nat → Prop} (hO : ∀ b, C.O b → O b) : R ⟨C.w0, O, C.S0, C.ι0, C.n, C.ds⟩ ι S σ H a w :=
  ⟨h.fr.imp fun b _ => hO b, h.hr, h.sl, fun i ho => (h.own i ho).imp (hO _) (fun h => h), fun b _ hs => (h.sup b hs).imp id (And.imp (Or.imp (hO _) id) id), h.sub, h.loc, h.size, h.defs⟩
theorem R.last (hR : R C ι S σ H a w) (hf : Fr (fun _ => False) w w') {l : List (Nat × CV)} (hl : ∀ p ∈ l, VR w' C.S0 p.2 (a'.tmps.getD p.1 Go.undef)) (hsz : a'.tmps.size = C.n) (hd : a'.defers = C.ds) : R C ι C.S0 (l.map fun p => (p.1, .c p.2)) [] a' w' := by
  have h := R.make (a := a') (w := w') (fun _ => False) C.S0 ι (l := l) (fun b _ hs => Nat.lt_of_lt_of_le (hR.hr.slt b (hR.sub b hs)) hf.size) hl hsz hd
  have nope : ∀ id, ¬ Owned ι [] id := fun id ho => by unfold Owned at ho; simp [LH.get] at ho
  exact ⟨hR.fr.trans (hf.imp fun _ _ h => h.elim), h.hr, h.sl, fun id ho => absurd ho (nope _), fun b _ hs => .inl hs, fun b _ hs => hs, fun id ob hg => by simp [LH.get] at hg, hsz, hd⟩
end
theorem u8_scalar (b : List UInt8) : ∀ x ∈ bys b, x.scalar = true ∧ x.cells = [x] := fun x hx => by
  obtain ⟨c, _, rfl⟩ := List.mem_map.1 hx
  exact ⟨rfl, rfl⟩
theorem u8_int (b : List UInt8) : ∀ x ∈ bys b, ∃ k : Int, x = .int .u8 k := fun x hx => by
  obtain ⟨c, _, rfl⟩ := List.mem_map.1 hx
  exact ⟨_, rfl⟩
theorem noRec_at {l : List Rec} {i : Nat} (h : i < l.length) : l.getD i noRec = l[i] := by
  rw [List.getD_eq_getElem?_getD, List.getElem?_eq_getElem h]; rfl
theorem cw36 (b : List UInt8) (hb : b.length < 1000000000000000) (hlen : (unpackF b).1.length < 9223372036854775807) : CW Try.prog 36 [.cv (.sl 1 (bys b))] ⟨[.cv (.bool true)], []⟩ := by
  have hfine := unpack_fine b
  have hto : ∀ r ∈ (unpackF b).1, r.to.length ≤ 35184372088832 := fun r h => Nat.le_trans (hfine r h).2 (by decide)
  refine CW.hand (c := codeOf Try.f36) rs36 [] Try.func36 (by kernel_rfl) (by decide +kernel) (by decide +kernel) (by show 1 ≤ _; rw [n36]; decide) (by show 1 ≤ 8; decide) trivial (fun C ι S a w hn hO' hR => ?_)
  have hR : R C ι S [(0, .c (.sl 1 (bys b)))] [] a w := hR
  generalize hQ : (fun (e : Exit) (a1 : Act) (w1 : World) => (e = .normal ∨ e = .ret) ∧ ∃ ι' S' σ' H', R C ι' S' σ' H' a1 w1 ∧ retW σ' H' rs36 [.cv (.sl 1 (bys b))] [] ⟨[.cv (.bool true)], []⟩) = Q
  have fin : ∀ {a' : Act} {w' : World}, Fr (fun _ => False) w w' → a'.tmps.size = 76 → a'.defers = C.ds → a'.tmps.getD 2 Go.undef = .bool true → Q .ret a' w' := by
    intro a' w' hf hs hd h2
    subst hQ
    refine ⟨.inr rfl, ι, C.S0, _, [], R.last (l := [(2, .bool true)]) hR hf (fun p hp => ?_) (by rw [hs, hn, n36]) hd, ret1 rfl rfl⟩
    obtain rfl := List.mem_singleton.1 hp
    dsimp only
    rw [h2]; exact .bool _
  clear hQ
  have hn' : C.n = 76 := by rw [hn, n36]
  have hsz := hR.size
  have hd := hR.defs
  rw [hn'] at hsz
  have hv0 : VR w S (.sl 1 (bys b)) (a.tmps.getD 0 Go.undef) := avr_c (hR.sl 0)
  obtain ⟨v0, h0⟩ : ∃ v0, a.tmps.getD 0 Go.undef = v0 := ⟨_, rfl⟩
  rw [h0] at hv0
  have hv := vr_vis hv0 (u8_scalar b)
  have hV : ∀ x {o}, visS v0 (bys b).length x o → x < w.heap.size := fun x o hx => hR.hr.slt x (vis_cell hv0 hx).1
  generalize hVe : visS v0 (bys b).length = V at *
  have hvis : ∀ x o, V x o → visS v0 (bys b).length x o := fun x o h => by rw [hVe]; exact h
  rw [split36]
  -- the first step
  have hR0 := R.make (a := a) (w := w) (ds := C.ds) (n := 76) (fun _ => False) V ι (l := [(0, .raw v0)]) hV (fun p hp => by
    obtain rfl := List.mem_singleton.1 hp
    dsimp only
    rw [h0]; exact .raw _) hsz hd
  refine wp_seq (code_sound (C := ⟨w, fun _ => False, V, ι, 76, C.ds⟩) vu0 _ (by rw [← n36]; exact chk_vu0) hR0 (rn_ok _ (fun _ _ _ h => h) (wvu0 v0 (fun e σ H => e = .norm ∧ Has σ [(0, .c (.raw v0))] ∧ H = []) fun σ h => ⟨rfl, h, rfl⟩)) fun e ι1 S1 σ1 H1 a1 w1 hq h1 => ?_)
  obtain ⟨rfl, hs1, rfl⟩ := hq
  have f1 : Fr (fun _ => False) w w1 := h1.fr
  have hv1 : VR w1 V (.sl 1 (bys b)) v0 := hv.old fun x o hx => ⟨hx, f1.block x (hV x hx) id⟩
  have hV1 : ∀ x {o}, V x o → x < w1.heap.size := fun x o hx => Nat.lt_of_lt_of_le (hV x hx) f1.size
  -- the first call
  refine wp_seq (seg1 (ι := ι1) (ds := C.ds) hb hV1 h1.size h1.defs (slot_raw h1 hs1.1) hv1 fun ι2 S2 a2 w2 h2 => ?_)
  have f2 : Fr (fun _ => False) w1 w2 := h2.fr
  have g2 := f1.trans f2
  have hg2 : LH.get [(64, LObj.row 8 (recs (unpackF b).1))] 64 = some (.row 8 (recs (unpackF b).1)) := rfl
  have hrow : RowR (ι2 64) S2 w2 8 (recs (unpackF b).1) := h2.hr.row 64 _ _ hg2
  have hown : (ι2 64).isnil = false → Owned ι2 [(64, LObj.row 8 (recs (unpackF b).1))] 64 := fun h => by unfold Owned; rw [hg2]; exact h
  have hL1 : (ι2 64).isnil = false → w1.heap.size ≤ (ι2 64).block := fun h => (h2.own 64 (hown h)).resolve_left id
  have hL2 : (ι2 64).isnil = false → (ι2 64).block < w2.heap.size := fun h => h2.hr.lt 64 (hown h)
  have hL3 : (ι2 64).isnil = false → ∀ o, ¬ S2 (ι2 64).block o := fun h o => h2.hr.disj 64 (hown h)
  have h3s : AVR ι2 [(64, LObj.row 8 (recs (unpackF b).1))] S2 w2 (.osl 64 0 (recs (unpackF b).1).length) (a2.tmps.getD 3 Go.undef) := by
    rw [recs_len]; exact h2.sl 3
  have hsl := (oslOK_row (avr_osl h3s) (.inl hg2)).2
  have hv3 := osl_vr hg2 h3s hrow
  rw [recs_len] at hsl
  have sup2 : ∀ x {o}, S2 x o → V x o ∨ (False ∨ w1.heap.size ≤ x) ∧ w2.frozen? ⟨x, o, none⟩ = false := fun x _ h => h2.sup x h
  have slt2 := h2.hr.slt
  have hv2 : VR w2 V (.sl 1 (bys b)) v0 := hv.old fun x o hx => ⟨hx, g2.block x (hV x hx) id⟩
  have hV2 : ∀ x {o}, V x o → x < w2.heap.size := fun x o hx => Nat.lt_of_lt_of_le (hV x hx) g2.size
  have e0 := slot_raw h2 (t := 0) rfl
  have e4 := slot_i64 h2 (t := 4) rfl
  have e5 := slot_i64 h2 (t := 5) rfl
  -- the second
  refine wp_seq (seg2 (ι := ι2) (ds := C.ds) hb hV2 h2.size h2.defs e0 hv2 rfl e4 e5 fun ι3 S3 a3 w3 h3 => ?_)
  have f3 : Fr (fun _ => False) w2 w3 := h3.fr
  have g3 := g2.trans f3
  have hv6 : VR w3 S3 (.sl 8 (recs (unpackF b).1)) (a3.tmps.getD 6 Go.undef) := avr_c (h3.sl 6)
  have sup3 : ∀ x {o}, S3 x o → V x o ∨ (False ∨ w2.heap.size ≤ x) ∧ w3.frozen? ⟨x, o, none⟩ = false := fun x _ h => h3.sup x h
  have slt3 := h3.hr.slt
  have hv3' : VR w3 V (.sl 1 (bys b)) v0 := hv.old fun x o hx => ⟨hx, g3.block x (hV x hx) id⟩
  have hV3 : ∀ x {o}, V x o → x < w3.heap.size := fun x o hx => Nat.lt_of_lt_of_le (hV x hx) g3.size
  have e0 := slot_raw h3 (t := 0) rfl
  have e3 := slot_raw h3 (t := 3) rfl
  have e4 := slot_i64 h3 (t := 4) rfl
  have e5 := slot_i64 h3 (t := 5) rfl
  have e7 := slot_i64 h3 (t := 7) rfl
  have e8 := slot_i64 h3 (t := 8) rfl
  -- the third
  refine wp_seq (seg3 (ι := ι3) (ds := C.ds) hb hV3 h3.size h3.defs e0 hv3' e3 rfl e4 e5 e7 e8 fun ι4 S4 a4 w4 h4 => ?_)
  have f4 : Fr (fun _ => False) w3 w4 := h4.fr
  have g4 := g3.trans f4
  have hv9 : VR w4 S4 (.sl 8 (recs (unpackF b).1)) (a4.tmps.getD 9 Go.undef) := avr_c (h4.sl 9)
  have sup4 : ∀ x {o}, S4 x o → V x o ∨ (False ∨ w3.heap.size ≤ x) ∧ w4.frozen? ⟨x, o, none⟩ = false := fun x _ h => h4.sup x h
  have slt4 := h4.hr.slt
  have e3 := slot_raw h4 (t := 3) rfl
  have e6 := slot_raw h4 (t := 6) rfl
  have e4 := slot_i64 h4 (t := 4) rfl
  have e5 := slot_i64 h4 (t := 5) rfl
  have e7 := slot_i64 h4 (t := 7) rfl
  have e8 := slot_i64 h4 (t := 8) rfl
  generalize a2.tmps.getD 3 Go.undef = v3 at *
  generalize a3.tmps.getD 6 Go.undef = v6 at *
  have f24 := f3.trans f4
  have lt2 : ∀ x {o}, (S2 x o ∨ pubS (ι2 64) 8 x o) → x < w2.heap.size := fun x o h => h.elim (slt2 x) (fun h => by
    obtain ⟨h1, rfl, -, -⟩ := h
    exact hL2 h1)
  -- whether they are the same
  refine wp_seq (wp_seq (seg4 (ι := ι4) (ds := C.ds) (V := fun x o => (S2 x o ∨ pubS (ι2 64) 8 x o) ∨ S3 x o) (by omega) hto (fun x o h => h.elim (fun h => Nat.lt_of_lt_of_le (lt2 x h) f24.size) (fun h => Nat.lt_of_lt_of_le (slt3 x h) f4.size)) h4.size h4.defs e3 e6 rfl e4 e5 e7 e8
    (hv3.old fun x o h => ⟨.inl h, f24.block x (lt2 x h) id⟩) (hv6.old fun x o h => ⟨.inr h, f4.block x (slt3 x h) id⟩) fun ι5 S5 a5 w5 h5 => ?_))
  generalize a4.tmps.getD 9 Go.undef = v9 at *
  refine code_sound vuc _ (by show chkC _ 76 _ _ = true; rw [← n36]; exact chk_vuc) h5 (rn_ok _ (fun _ _ _ h => h) (wvuc v3 v6 v9 (fun e σ H => e = .norm ∧ Has σ [(3, .c (.raw v3)), (6, .c (.raw v6)), (9, .c (.raw v9))] ∧ H = []) fun σ h => ⟨rfl, h, rfl⟩)) fun e ι6 S6 σ6 H6 a6 w6 hq h6 => ?_
  obtain ⟨rfl, hs6, rfl⟩ := hq
  have h6 := R.weak h6 hs6
  refine wp_seq (wp_seq (code_sound vu6 _ (by show chkC _ 76 _ _ = true; rw [← n36]; exact chk_vu6) h6 (rn_ok _ (fun _ _ _ h => h) (wvu6 v3 v6 v9 (fun e σ H => e = .norm ∧ Has σ [(3, .c (.raw v3)), (6, .c (.raw v6)), (9, .c (.raw v9)), (12, .c (.int .i64 (0 : Nat)))] ∧ H = []) fun σ h => ⟨rfl, h, rfl⟩)) fun e ι7 S7 σ7 H7 a7 w7 hq h7 => ?_))
  obtain ⟨rfl, hs7, rfl⟩ := hq
  have f7 : Fr (fun _ => False) w4 w7 := h7.fr
  have f27 := f24.trans f7
  have g7 := g4.trans f7
  have e3 := slot_raw h7 hs7.1
  have e6 := slot_raw h7 hs7.2.1
  have e9 := slot_raw h7 hs7.2.2.1
  have e12 := slot_i64 h7 hs7.2.2.2.1
  -- the row, to be written
  obtain ⟨f, hrowf, hf⟩ := row_rsl (S0 := fun _ _ => False) hrow
  have hM := R.make (a := a7) (w := w7) (ds := C.ds) (n := 76) (fun _ => False) (fun _ _ => False) ι7 (l := [(6, .raw v6), (9, .raw v9), (12, .int .i64 (0 : Nat))]) (fun _ _ h => h.elim) (fun p hp => by
    simp only [List.mem_cons, List.not_mem_nil, or_false] at hp
    rcases hp with rfl | rfl | rfl
    all_goals dsimp only
    · rw [e6]; exact .raw _
    · rw [e9]; exact .raw _
    · rw [e12]; exact .int _ _) h7.size h7.defs
  have hk0 : rowK (unpackF b).1 f 0 = (List.range (unpackF b).1.length).map fun i => recV ((unpackF b).1.getD i noRec) (f i) := by simp [rowK]
  have hrow0 : RowR (ι2 64) (fun _ _ => False) w7 8 (rowK (unpackF b).1 f 0) := by
    rw [hk0]
    exact hrowf.old (fun h => f27.block _ (hL2 h) id) fun _ _ h => h.elim
  have hone : ∀ x, ¬ OwnB ι7 [] x := fun x ⟨id, ho, _⟩ => by unfold Owned at ho; simp [LH.get] at ho
  have hA := hM.adopt (id := 64) rfl hrow0 (fun h => ⟨Nat.lt_of_lt_of_le (hL2 h) f27.size, fun h => h, hone _⟩)
  have hown' : ∀ x, OwnB (updL ι7 64 (ι2 64)) (LH.set [] 64 (.row 8 (rowK (unpackF b).1 f 0))) x → (ι2 64).isnil = false ∧ (ι2 64).block = x := fun x h => h.adopt.resolve_left (hone x)
  have hA := hA.say (t := 3) (v := .osl 64 0 (unpackF b).1.length) (fun _ => by
    rw [e3]
    refine .osl _ _ _ _ ?_
    unfold OslOK
    rw [show LH.get (LH.set [] 64 (LObj.row 8 (rowK (unpackF b).1 f 0))) 64 = some (LObj.row 8 (rowK (unpackF b).1 f 0)) from rfl, updL_same]
    exact ⟨by rw [rowK_len]; omega, hsl⟩)
  have hA := hA.wide (O := fun x => w1.heap.size ≤ x ∧ x < w2.heap.size) (fun x h => by
    obtain ⟨h1, rfl⟩ := hown' x h
    exact ⟨hL1 h1, hL2 h1⟩)
  have hA : R ⟨w7, fun x => w1.heap.size ≤ x ∧ x < w2.heap.size, fun _ _ => False, updL ι7 64 (ι2 64), 76, C.ds⟩ (updL ι7 64 (ι2 64)) (fun _ _ => False) (sL (unpackF b).1.length v6 v9 0) (hL (unpackF b).1 f 0) a7 w7 := hA
  have hoff : LiesOff ⟨w7, fun x => w1.heap.size ≤ x ∧ x < w2.heap.size, fun _ _ => False, updL ι7 64 (ι2 64), 76, C.ds⟩ (updL ι7 64 (ι2 64)) (fun _ _ => False) (hL (unpackF b).1 f 0) w7 (unpackF b).1 f := fun i j hi hj => by
    rw [noRec_at hi] at hj
    obtain ⟨hvr, hfl⟩ := hf i hi
    obtain ⟨x, off, cap, e, -, -, hc⟩ := vr_sl_pos hvr (by rw [runes_len]; omega)
    obtain ⟨k1, k2, y, k3⟩ := to_new (O := fun _ => False) (fun _ => id) f2 hv1 (u8_int b) (fun x o h => (sup2 x h).imp (hvis x o) id) hvr e hj
    have hlt := cell_lt k3
    obtain ⟨_, hS, _⟩ := hc j 0 (by rw [runes_len]; exact hj) (by decide)
    have hbl := f27.block x hlt id
    have e1 : (f i).1 = some ⟨x, off, none⟩ := by injection e
    refine ⟨x, off, e1, ⟨Nat.lt_of_lt_of_le hlt f27.size, fun h => h, fun h => ?_⟩, ⟨k1, hlt⟩, ⟨y, by rw [cell_block hbl]; exact k3⟩, by rw [frozen_block hbl]; exact k2⟩
    obtain ⟨h1, rfl⟩ := hown' x h
    exact hL3 h1 _ hS
  refine wp_block (LoopFrom.loop (loopO (C := ⟨w7, fun x => w1.heap.size ≤ x ∧ x < w2.heap.size, fun _ _ => False, updL ι7 64 (ι2 64), 76, C.ds⟩) n36.symm hlen (fun i hi => by rw [noRec_at hi]; exact (hf i hi).2) (fun i hi => by rw [noRec_at hi]; have := (hfine _ (List.getElem_mem hi)).2; omega) (fun ι8 S8 a8 w8 i h8 => ?_) _ 0 _ _ a7 w7 (Nat.lt_succ_self _) (Nat.zero_le _) hA hoff))
  show Code.wp Try.prog (.seq (.region 14 (yz Try.f36) false) .ret) Q a8 w8
  have f8 : Fr (fun x => w1.heap.size ≤ x ∧ x < w2.heap.size) w7 w8 := h8.fr
  have s37 := (f4.trans f7)
  have old : ∀ {x o : Nat}, (V x o ∨ w2.heap.size ≤ x) → x < w7.heap.size → w8.heap[x]? = w7.heap[x]? := fun {x o} hx hlt => f8.block x hlt fun ⟨q1, q2⟩ => by
    rcases hx with hx | hx
    · have := hV1 x hx; have := f1.size; have := hV x hx; omega
    · omega
  have hv6' : VR w8 (fun x o => S3 x o ∨ S4 x o) (.sl 8 (recs (unpackF b).1)) v6 := hv6.old fun x o h => ⟨.inl h, (old ((sup3 x h).imp id fun h => h.1.resolve_left id) (Nat.lt_of_lt_of_le (slt3 x h) s37.size)).trans (s37.block x (slt3 x h) id)⟩
  have hv9' : VR w8 (fun x o => S3 x o ∨ S4 x o) (.sl 8 (recs (unpackF b).1)) v9 := hv9.old fun x o h => ⟨.inr h, (old ((sup4 x h).imp id fun h => Nat.le_trans f3.size (h.1.resolve_left id)) (Nat.lt_of_lt_of_le (slt4 x h) f7.size)).trans (f7.block x (slt4 x h) id)⟩
  have s8 : w7.heap.size ≤ w8.heap.size := f8.size
  refine wp_seq (segz (ι := ι8) (ds := C.ds) (V := fun x o => S3 x o ∨ S4 x o) (by omega) hto (fun x o h => h.elim (fun h => Nat.lt_of_lt_of_le (slt3 x h) (Nat.le_trans s37.size s8)) (fun h => Nat.lt_of_lt_of_le (slt4 x h) (Nat.le_trans f7.size s8))) h8.size h8.defs (slot_raw h8 (t := 6) rfl) (slot_raw h8 (t := 9) rfl) hv9' hv6' fun ι9 S9 a9 w9 h9 => wp_ret ?_)
  have f9 : Fr (fun _ => False) w8 w9 := h9.fr
  have f78 : Fr (fun _ => False) w w8 := ⟨f8.os.trans g7.os, f8.tape.trans g7.tape, f8.output.trans g7.output, Nat.le_trans g7.size f8.size, fun k hk _ => (f8.block k (Nat.lt_of_lt_of_le hk g7.size) fun ⟨q1, _⟩ => by have := f1.size; omega).trans (g7.block k hk id)⟩
  refine fin (f78.trans f9) h9.size h9.defs ?_
  have := avr_c (h9.sl 2)
  generalize a9.tmps.getD 2 Go.undef = u at this
  have this : VR w9 S9 (.bool true) u := this
  cases this
  rfl
theorem unpack_len (b : List UInt8) : (unpackF b).1.length ≤ 4096 := by
  by_cases h : (unpackF b).2.2 = 0
  · obtain ⟨h1, h2⟩ := pack_unpack h
    have hk : (checkP (unpackF b).1).2 = 0 := by
      unfold packF at h1
      by_cases h3 : (checkP (unpackF b).1).2 = 0
      · exact h3
      · rw [if_pos h3] at h1
        injection h1 with _ h1
        exact absurd (congrArg Prod.snd h1) h3
    exact ((check_zero fun r hr => (h2 r hr).1.1).1 hk).1
  · rw [unpack_nil h]; exact Nat.zero_le _
theorem bys_takeN (b : List UInt8) (n : Nat) : List.take n (bys b) = bys (b.take n) := by unfold bys; rw [← List.map_take]
def b10 : IC := (.seq (.reg [⟨(some 2), 0, none, .mv (.c (.bool false))⟩]) (.seq (.reg [⟨(some 3), 0, none, .mv (.c .nilsl)⟩]) (.seq (.reg [⟨(some 5), 0, none, .mv (.t 3)⟩,
  ⟨(some 6), 0, none, .mv (.t 0)⟩,
  ⟨(some 7), 1, none, .app (.t 5) (.t 6) 1 1 false⟩,
  ⟨(some 3), 0, none, .mv (.t 7)⟩]) (.seq (.seq (.pub 3 (.reg [⟨(some 8), 0, none, .mv (.t 3)⟩,
  ⟨(some 9), 0, none, .len false (.t 8)⟩,
  ⟨(some 10), 0, none, .bin .geq (.t 9) (.c (.int .i64 4))⟩])) (.cond (.t 10) (.seq (.reg [⟨(some 11), 0, none, .mv (.t 3)⟩,
  ⟨(some 12), 0, none, .mv (.t 3)⟩,
  ⟨(some 13), 0, none, .len false (.t 12)⟩,
  ⟨(some 14), 0, none, .bin .sub (.t 13) (.c (.int .i64 4))⟩,
  ⟨(some 15), 0, none, .slc (.t 11) none (some (.t 14)) none 1⟩,
  ⟨(some 16), 2, none, .call (.c (.fn 35)) [((.t 15), .view 1)]⟩,
  ⟨(some 4), 0, none, .mv (.t 16)⟩]) (.seq (.reg [⟨(some 17), 0, none, .mv (.t 4)⟩,
  ⟨(some 18), 12, none, .call (.c (.fn 36)) [((.t 17), .view 1)]⟩,
  ⟨(some 19), 0, none, .not (.t 18)⟩]) (.cond (.t 19) (.seq (.reg [⟨(some 2), 0, none, .mv (.c (.bool false))⟩]) .ret) .skip))) .skip)) (.seq (.reg [⟨(some 20), 22, none, .call (.c (.fn 34)) []⟩,
  ⟨(some 21), 0, none, .mv (.t 20)⟩,
  ⟨(some 22), 0, (some (21, true)), .mv (.t 3)⟩,
  ⟨(some 23), 32, (some (21, true)), .call (.c (.fn 36)) [((.t 22), .view 1)]⟩,
  ⟨(some 24), 0, none, .pick (.t 21) (.t 23) (.c (.bool false))⟩,
  ⟨(some 25), 0, none, .mv (.t 24)⟩,
  ⟨(some 26), 0, (some (25, true)), .mv (.t 3)⟩,
  ⟨(some 27), 0, (some (25, true)), .b2s (.t 26)⟩,
  ⟨(some 28), 0, (some (25, true)), .mv (.t 0)⟩,
  ⟨(some 29), 0, (some (25, true)), .b2s (.t 28)⟩,
  ⟨(some 30), 0, (some (25, true)), .bin .eql (.t 27) (.t 29)⟩,
  ⟨(some 31), 0, none, .pick (.t 25) (.t 30) (.c (.bool false))⟩,
  ⟨(some 2), 0, none, .mv (.t 31)⟩]) .ret)))))
def rs10 : List (Nat × Option Nat × Mode) := [(2, none, .plain)]
theorem chk10 : chkC Try.prog Try.f10.ntmps b10 (Try.f10.body.getD .skip) = true := by decide +kernel
theorem top10 {args : List Arg} {out : Out} (ha : args.length.ble Try.f10.ntmps = true) (h8 : args.length.ble 8 = true) (mss : List (List (Option Nat))) (hb : backOK args out.back)
    (hw : rnC Try.prog b10 (topQ rs10 args mss out) (slotsOf (argsAV argBase args 0) 0) (argsOb argBase args 0)) : CW Try.prog 10 args out :=
  CW.of Try.func10 rs10 mss (by decide +kernel) (by decide +kernel) (by decide +kernel) ha h8 chk10 hb hw
theorem w10 (b : List UInt8) (hb : b.length ≤ 140737488351232) (Q : Ex → Slots → LH → Prop) (hQ : ∀ σ H, Slots.get σ 2 = .c (.bool true) → Q .ret σ H) : rnC Try.prog b10 Q [(0, .c (.sl 1 (bys b)))] [] := by
  unfold b10
  have e36 : ∀ c : List UInt8, c.length < 1000000000000000 → CW Try.prog 36 [.cv (.sl 1 (bys c))] ⟨[.cv (.bool true)], []⟩ := fun c hc => cw36 c hc (by have := unpack_len c; omega)
  have hsum : ∀ c : List UInt8, (sum4 (sumW c)).length = 4 := fun _ => rfl
  simp only [go_sem, ↓reduceIte, Nat.reduceEqDiff, Nat.reduceMul, Nat.reduceAdd, Nat.reduceDiv, Nat.reduceSub, Nat.reduceLT, Nat.reduceLeDiff, Int.reduceLE, Int.reduceLT, Int.reduceToNat, Int.reduceEq]
  refine ⟨by omega, ?_⟩
  have e1 : 4 ≤ b.length → IntKind.i64.wrap ((b.length : Int) - 4) = ((b.length - 4 : Nat) : Int) := fun h => by rw [wrap_i64]; omega
  have hcut : List.take b.length (bys b) = bys b := List.take_of_length_le (by rw [bys_len]; exact Nat.le_refl _)
  refine ⟨fun h4 => ?_, fun h4 => ?_⟩
  · have h4 : 4 ≤ b.length := by omega
    rw [e1 h4, Int.toNat_natCast, Nat.sub_zero, bys_takeN]
    refine ⟨by omega, ?_⟩
    refine callK_1 _ (fun _ => (cw35 (b.take (b.length - 4)) (by rw [List.length_take]; omega)).pubRes rfl) (by simp only [go_sem, ↓reduceIte, Nat.reduceEqDiff, Nat.reduceMul, Nat.reduceAdd, Nat.reduceDiv, Nat.reduceSub, Nat.reduceLT, Nat.reduceLeDiff, Int.reduceLE, Int.reduceLT, Int.reduceToNat, Int.reduceEq]) rfl rfl ?_
    simp only [go_sem, ↓reduceIte, Nat.reduceEqDiff, Nat.reduceMul, Nat.reduceAdd, Nat.reduceDiv, Nat.reduceSub, Nat.reduceLT, Nat.reduceLeDiff, Int.reduceLE, Int.reduceLT, Int.reduceToNat, Int.reduceEq]
    repeat (refine ⟨by (first | omega | (intro h1 h2; exact ⟨h1, h2⟩) | (intro h1; omega) | (intro h1; exact h1) | trivial), ?_⟩)
    refine callK_1 _ (fun _ => e36 _ (by rw [List.length_append, hsum, List.length_take]; omega)) (by simp only [go_sem, ↓reduceIte, Nat.reduceEqDiff, Nat.reduceMul, Nat.reduceAdd, Nat.reduceDiv, Nat.reduceSub, Nat.reduceLT, Nat.reduceLeDiff, Int.reduceLE, Int.reduceLT, Int.reduceToNat, Int.reduceEq]) rfl rfl ?_
    simp only [go_sem, ↓reduceIte, Nat.reduceEqDiff, Nat.reduceMul, Nat.reduceAdd, Nat.reduceDiv, Nat.reduceSub, Nat.reduceLT, Nat.reduceLeDiff, Int.reduceLE, Int.reduceLT, Int.reduceToNat, Int.reduceEq]
    repeat (refine ⟨by (first | omega | (intro h1 h2; exact ⟨h1, h2⟩) | (intro h1; omega) | (intro h1; exact h1) | trivial), ?_⟩)
    refine callK_1 _ (fun _ => cw34) (by simp only [go_sem, ↓reduceIte, Nat.reduceEqDiff, Nat.reduceMul, Nat.reduceAdd, Nat.reduceDiv, Nat.reduceSub, Nat.reduceLT, Nat.reduceLeDiff, Int.reduceLE, Int.reduceLT, Int.reduceToNat, Int.reduceEq]) rfl rfl ?_
    simp only [go_sem, ↓reduceIte, Nat.reduceEqDiff, Nat.reduceMul, Nat.reduceAdd, Nat.reduceDiv, Nat.reduceSub, Nat.reduceLT, Nat.reduceLeDiff, Int.reduceLE, Int.reduceLT, Int.reduceToNat, Int.reduceEq]
    repeat (refine ⟨by (first | omega | (intro h1 h2; exact ⟨h1, h2⟩) | (intro h1; omega) | (intro h1; exact h1) | trivial), ?_⟩)
    rw [hcut]
    refine callK_1 _ (fun _ => e36 b (by omega)) (by simp only [go_sem, ↓reduceIte, Nat.reduceEqDiff, Nat.reduceMul, Nat.reduceAdd, Nat.reduceDiv, Nat.reduceSub, Nat.reduceLT, Nat.reduceLeDiff, Int.reduceLE, Int.reduceLT, Int.reduceToNat, Int.reduceEq]) rfl rfl ?_
    simp only [go_sem, ↓reduceIte, Nat.reduceEqDiff, Nat.reduceMul, Nat.reduceAdd, Nat.reduceDiv, Nat.reduceSub, Nat.reduceLT, Nat.reduceLeDiff, Int.reduceLE, Int.reduceLT, Int.reduceToNat, Int.reduceEq]
    repeat (refine ⟨by (first | omega | (intro h1 h2; exact ⟨h1, h2⟩) | (intro h1; omega) | (intro h1; exact h1) | trivial), ?_⟩)
    rw [hcut, mkStr_bys, strOf_list]
    exact ⟨bys_isU8 _, bys_isU8 _, hQ _ _ (by simp [Slots.get])⟩
  · refine callK_1 _ (fun _ => cw34) (by simp only [go_sem, ↓reduceIte, Nat.reduceEqDiff, Nat.reduceMul, Nat.reduceAdd, Nat.reduceDiv, Nat.reduceSub, Nat.reduceLT, Nat.reduceLeDiff, Int.reduceLE, Int.reduceLT, Int.reduceToNat, Int.reduceEq]) rfl rfl ?_
    simp only [go_sem, ↓reduceIte, Nat.reduceEqDiff, Nat.reduceMul, Nat.reduceAdd, Nat.reduceDiv, Nat.reduceSub, Nat.reduceLT, Nat.reduceLeDiff, Int.reduceLE, Int.reduceLT, Int.reduceToNat, Int.reduceEq]
    repeat (refine ⟨by (first | omega | (intro h1 h2; exact ⟨h1, h2⟩) | (intro h1; omega) | (intro h1; exact h1) | trivial), ?_⟩)
    rw [hcut]
    refine callK_1 _ (fun _ => e36 b (by omega)) (by simp only [go_sem, ↓reduceIte, Nat.reduceEqDiff, Nat.reduceMul, Nat.reduceAdd, Nat.reduceDiv, Nat.reduceSub, Nat.reduceLT, Nat.reduceLeDiff, Int.reduceLE, Int.reduceLT, Int.reduceToNat, Int.reduceEq]) rfl rfl ?_
    simp only [go_sem, ↓reduceIte, Nat.reduceEqDiff, Nat.reduceMul, Nat.reduceAdd, Nat.reduceDiv, Nat.reduceSub, Nat.reduceLT, Nat.reduceLeDiff, Int.reduceLE, Int.reduceLT, Int.reduceToNat, Int.reduceEq]
    repeat (refine ⟨by (first | omega | (intro h1 h2; exact ⟨h1, h2⟩) | (intro h1; omega) | (intro h1; exact h1) | trivial), ?_⟩)
    rw [hcut, mkStr_bys, strOf_list]
    exact ⟨bys_isU8 _, bys_isU8 _, hQ _ _ (by simp [Slots.get])⟩
theorem cw10 (b : List UInt8) (hb : b.length ≤ 140737488351232) : CW Try.prog 10 [.cv (.sl 1 (bys b))] ⟨[.cv (.bool true)], []⟩ :=
  top10 rfl rfl [] trivial (w10 b hb _ fun σ H h => ret1 rfl h)
def All (w : World) (b o : Nat) : Prop := b < w.heap.size
def DownV (P : Program) (t : TypeId) (n : Nat) {α : Type} (f : α → CV) (Q : α → Prop) : Prop :=
  (∀ a, (f a).wf n) ∧ ∀ {H : Type} {enc : TypeId × Value → H} {w : World} {base : Nat} {spare : Nat → Bool} {held : Bool} {fuel : Nat} {cs : List Value} {x : DataW H × List MemPlace},
    DataW.trod enc P w base spare held fuel t cs = some x → ∃ a, cs.length = n ∧ (∀ j, j < n → VR w (All w) ((f a).cells.getD j .undef) (cs.getD j Go.undef)) ∧ ((∀ n ∈ x.1.weights P t, n ≤ reachBytes) → Q a)
theorem dv_int {P : Program} {t : TypeId} {k : IntKind} (ht : P.underlying t = some (.int k)) : DownV P t 1 (fun a : Int => CV.int k a) (fun a => (Lit.int k a).wf = true) := by
  refine ⟨fun a => ⟨rfl, by simp [CV.cells, CV.one]⟩, ?_⟩
  intro H enc w base spare held fuel cs x h
  obtain ⟨n, rfl, rfl, hw⟩ := DataW.trod_int ht h
  refine ⟨n, rfl, fun j hj => ?_, fun _ => hw⟩
  have : j = 0 := by omega
  subst this
  exact .int _ _
theorem wts_all {H : Type} {P : Program} {e : TypeId} : ∀ {l : List (DataW H)} {d : DataW H}, d ∈ l → ∀ n ∈ d.weights P e, n ∈ DataW.weightsAll P e l
  | d0 :: r, d, hd, n, hn => by
    simp only [DataW.weightsAll, List.mem_append]
    rcases List.mem_cons.1 hd with rfl | hd
    · exact .inl hn
    · exact .inr (wts_all hd n hn)
theorem dv_slice {P : Program} {α : Type} [Inhabited α] {f : α → CV} {Q : α → Prop} {t e n B : Nat} (ht : P.underlying t = some (.slice e)) (hC : P.cellsOf e = n) (hn : 0 < n) (hB : P.bytesOf e = B) (hd : DownV P e n f Q) :
    DownV P t 1 (fun l : List α => CV.sl n (l.map f)) (fun l => l.length * B ≤ reachBytes ∧ ∀ x ∈ l, Q x) := by
  refine ⟨fun a => ⟨rfl, by simp [CV.cells, CV.one]⟩, ?_⟩
  intro H enc w base spare held fuel cs x h
  rcases Go.Deep.open_slice ht h with ⟨rfl, rfl⟩ | ⟨a, len, cap, m, k, D, Pl, rfl, hb, hl, hm, hmm, rfl, hi⟩
  · refine ⟨[], rfl, fun j hj => ?_, fun _ => ⟨by simp, by simp⟩⟩
    have : j = 0 := by omega
    subst this
    exact .slnil _ _ _
  · have hlm : len ≤ m := by
      rw [hmm]
      split <;> omega
    obtain ⟨g, hg⟩ := Go.Deep.choose_lt (n := len) (p := fun i (y : α × List Value) => w.cells? base (a.add (i * P.cellsOf e)) (P.cellsOf e) = some y.2 ∧ (∀ j, j < n → VR w (All w) ((f y.1).cells.getD j .undef) (y.2.getD j Go.undef)) ∧ ((∀ n ∈ (D i).weights P e, n ≤ reachBytes) → Q y.1)) (fun i hi' => by
      obtain ⟨cs', hc, ht'⟩ := hi i (by omega)
      obtain ⟨y, hy, hv, hq⟩ := hd.2 ht'
      exact ⟨(y, cs'), hc, hv, hq⟩)
    refine ⟨(List.range len).map fun i => (g i).1, rfl, fun j hj => ?_, fun hw => ⟨?_, ?_⟩⟩
    · have : j = 0 := by omega
      subst this
      show VR w (All w) (.sl n (((List.range len).map fun i => (g i).1).map f)) (.slice (some a) len cap)
      by_cases h0 : len = 0
      · subst h0; exact .slnil _ _ _
      have hcell : ∀ i, i < len → ∀ j, j < n → w.cell? ⟨a.block, a.off + (i * n + j), none⟩ = some ((g i).2.getD j Go.undef) := by
        intro i hi' j hj
        obtain ⟨hc, _, _⟩ := hg i hi'
        rw [hC] at hc
        obtain ⟨_, hcl, hat⟩ := World.cells?_some hc
        have h1 := hat j hj
        rw [Go.Deep.add_add] at h1
        have h2 : (g i).2[j]? = some ((g i).2.getD j Go.undef) := by
          rw [List.getD_eq_getElem?_getD, List.getElem?_eq_getElem (by omega)]; rfl
        rw [h2] at h1
        unfold Addr.add at h1
        split at h1
        · rename_i e0
          rw [e0, Nat.add_zero]
          have hsp : a.spot = none := by
            cases hs : a.spot with
            | none => rfl
            | some s =>
              rw [World.cell?, hs] at h1
              split at h1 <;> simp at h1
          have : a = ⟨a.block, a.off, none⟩ := by cases a; simp_all
          rw [this] at h1
          exact h1
        · exact h1
      have hsp : a = ⟨a.block, a.off, none⟩ := by
        obtain ⟨hc, _, _⟩ := hg 0 (by omega)
        rw [hC] at hc
        obtain ⟨_, hcl, hat⟩ := World.cells?_some hc
        have h1 := hat 0 hn
        rw [Go.Deep.add_add, Nat.zero_mul, Nat.zero_add] at h1
        have h2 : (g 0).2[0]? = some ((g 0).2.getD 0 Go.undef) := by
          rw [List.getD_eq_getElem?_getD, List.getElem?_eq_getElem (by omega)]; rfl
        rw [h2] at h1
        unfold Addr.add at h1
        rw [if_pos rfl] at h1
        have hsp : a.spot = none := by
          cases hs : a.spot with
          | none => rfl
          | some s =>
            rw [World.cell?, hs] at h1
            split at h1 <;> simp at h1
        cases a; simp_all
      rw [hsp]
      have hl2 : (((List.range len).map fun i => (g i).1).map f).length = len := by simp
      have := VR.sl (w := w) (S := All w) n (((List.range len).map fun i => (g i).1).map f) a.block a.off cap (fun i j => (g i).2.getD j Go.undef) (by rw [hl2]; exact hl) (fun x hx => by
        obtain ⟨y, _, rfl⟩ := List.mem_map.1 hx
        exact hd.1 y) (fun i j hi' hj => by
          rw [hl2] at hi'
          exact ⟨cell_lt (hcell i hi' j hj), hcell i hi' j hj⟩) (fun i j hi' hj => by
          rw [hl2] at hi'
          have e1 : (((List.range len).map fun i => (g i).1).map f).getD i .undef = f (g i).1 := by
            simp [List.getD_eq_getElem?_getD, hi']
          rw [e1]
          exact (hg i hi').2.1 j hj)
      rw [hl2] at this
      exact this
    · have h1 := hw ((((List.range len).map D).length + ((List.range (m - len)).map fun j => D (len + j)).length) * P.bytesOf e) (by simp [DataW.weights, ht])
      simp only [List.length_map, List.length_range] at h1 ⊢
      rw [hB] at h1
      exact Nat.le_trans (Nat.mul_le_mul_right _ (Nat.le_add_right _ _)) h1
    · intro y hy
      obtain ⟨i, hir, rfl⟩ := List.mem_map.1 hy
      have hil : i < len := List.mem_range.1 hir
      obtain ⟨_, _, hq⟩ := hg i hil
      refine hq (fun n hn => hw n ?_)
      have h1 := wts_all (P := P) (e := e) (l := (List.range len).map D) (List.mem_map.2 ⟨i, hir, rfl⟩) n hn
      simp only [DataW.weights, ht, List.mem_cons, List.mem_append]
      exact .inr (.inl h1)
def Rec.wf (r : Rec) : Prop := r.ok ∧ r.to.length ≤ 35184372088832 ∧ r.weight < 18446744073709551616
instance : Inhabited Rec := ⟨⟨0, 0, 0, 0, [], ⟨#[]⟩, ⟨#[]⟩, 0⟩⟩
theorem hr_nil (ι : Nat → Loc) (w : World) : HR ι (All w) [] w := by
  have nope : ∀ id, ¬ Owned ι [] id := fun id ho => by unfold Owned at ho; simp [LH.get] at ho
  exact ⟨fun id cs hg => by simp [LH.get] at hg, fun id e xs hg => by simp [LH.get] at hg, fun id e xs hg => by simp [LH.get] at hg, fun i j hi => absurd hi (nope _), fun i hi => absurd hi (nope _), fun i hi => absurd hi (nope _), fun b _ hb => hb⟩
theorem calls1 {P : Program} {f : FuncId} {x : CV} (h : CW P f [.cv x] ⟨[.cv (.bool true)], []⟩) {w : World} {u : Value} (hu : VR w (All w) x u) :
    Calls P f #[u] w fun e w' => e = .returned (.bool true) ∧ Below w.heap.size w w' := by
  refine (h.2.2 (fun _ => ⟨0, 0, 0, true⟩) (All w) w [u] rfl (fun j hj => ?_) (hr_nil _ w)).mono fun e w' hp => ?_
  · match j, hj with
    | 0, _ => exact .c _ _ hu
  · obtain ⟨r, ι', S', rfl, r1, r2, r3, r4, r5, r6, r7⟩ := hp
    have e1 := avr_bool (v := .c (.bool true)) r1
    exact ⟨by rw [e1], r7.below fun b ⟨id, ho, _⟩ => ho⟩
theorem u8_wf {n : Int} (h : (Lit.int .u8 n).wf = true) : 0 ≤ n ∧ n < 256 := by
  simp [Lit.wf, IntKind.min, IntKind.max, IntKind.bits, IntKind.signed] at h
  omega
theorem arg_bytesX {H : Type} {enc : TypeId × Value → H} {W : World} {base : Nat} {spare : Nat → Bool} {held : Bool} {dd : DataW H} {ps : List MemPlace} {ts : List TypeId} {ds : List (DataW H)} {j : Nat}
    (hsz : (DataW.weightsEach Try.prog ts ds).all (· ≤ reachBytes) = true) (ht : ts[j]? = some 52) (hdd : ds[j]? = some dd) {a : Option Addr} {len cap : Nat} (h : DataW.Trod enc Try.prog W base spare held 52 (.slice a len cap) dd ps) :
    ∃ l : List UInt8, VR W (All W) (.sl 1 (bys l)) (.slice a len cap) ∧ l.length ≤ 140737488351232 := by
  obtain ⟨fuel, hf⟩ := h
  obtain ⟨l, -, hv, hq⟩ := (dv_slice (B := 1) Try.underlying52 (by kernel_rfl) (by decide) (by kernel_rfl) (dv_int Try.underlying5)).2 hf
  have z := hq fun n hn => by
    have z := List.all_eq_true.1 hsz _ (DataW.weights_mem_each ht hdd n hn)
    simpa using z
  have z1 := z.1
  unfold reachBytes at z1
  refine ⟨l.map by8, ?_, by rw [List.length_map]; omega⟩
  have e : bys (l.map by8) = l.map (CV.int .u8) := by
    unfold bys
    rw [List.map_map]
    refine List.map_congr_left fun c hc => ?_
    have := u8_wf (z.2 c hc)
    exact (u8_of this.1 this.2).symm
  rw [e]
  exact hv 0 (by decide)
end Go.Proofs.Ytcpdnpaedkcebaa.V
