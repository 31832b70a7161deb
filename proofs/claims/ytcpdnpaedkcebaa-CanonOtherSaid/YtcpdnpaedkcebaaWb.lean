/- Contracts: canon's readings of a table. -/
import Derived.Test.YtcpdnpaedkcebaaWa
namespace Go.Proofs.Ytcpdnpaedkcebaa.V
open Go Go.RowKit
set_option linter.unusedVariables false
set_option linter.unusedSimpArgs false
set_option maxRecDepth 100000
/- endonym/canon.Class -/
def b18 : IC := (.seq (.reg [⟨(some 4), 0, none, .mv (.c (.int .i64 0))⟩]) (.seq (.seq (.reg [⟨(some 6), 0, none, .mv (.t 0)⟩,
  ⟨(some 7), 0, none, .mv (.t 1)⟩,
  ⟨(some 8), 1, none, .call (.c (.fn 42)) [((.t 6), .view 8), ((.c (.int .i64 2)), .plain), ((.t 7), .plain)]⟩,
  ⟨(some 5), 0, none, .mv (.t 8)⟩]) (.seq (.reg [⟨(some 9), 0, none, .mv (.t 5)⟩,
  ⟨(some 10), 0, none, .bin .geq (.t 9) (.c (.int .i64 0))⟩]) (.cond (.t 10) (.seq (.reg [⟨(some 11), 0, none, .mv (.t 0)⟩,
  ⟨(some 12), 0, none, .mv (.t 5)⟩,
  ⟨(some 13), 0, none, .ia (.t 11) (.t 12) 8⟩,
  ⟨(some 14), 0, none, .fa (.t 13) 3⟩,
  ⟨(some 15), 0, none, .ld (.t 14) none⟩,
  ⟨(some 4), 0, none, .mv (.t 15)⟩]) .ret) .skip))) (.seq (.reg [⟨(some 4), 0, none, .mv (.c (.int .i64 0))⟩]) .ret)))
def rs18 : List (Nat × Option Nat × Mode) := [(4, none, .plain)]
theorem chk18 : chkC Try.prog Try.f18.ntmps b18 (Try.f18.body.getD .skip) = true := by decide +kernel
theorem top18 {args : List Arg} {out : Out} (ha : args.length.ble Try.f18.ntmps = true) (h8 : args.length.ble 8 = true) (mss : List (List (Option Nat))) (hb : backOK args out.back)
    (hw : rnC Try.prog b18 (topQ rs18 args mss out) (slotsOf (argsAV argBase args 0) 0) (argsOb argBase args 0)) : CW Try.prog 18 args out :=
  CW.of Try.func18 rs18 mss (by decide +kernel) (by decide +kernel) (by decide +kernel) ha h8 chk18 hb hw
/- endonym/canon.Open -/
def b15 : IC := (.seq (.reg [⟨(some 4), 0, none, .mv (.c .nilsl)⟩]) (.seq (.seq (.reg [⟨(some 8), 0, none, .mv (.t 1)⟩,
  ⟨(some 9), 1, none, .call (.c (.fn 40)) [((.t 8), .plain)]⟩]) (.cond (.t 9) (.seq (.reg [⟨(some 11), 0, none, .mv (.t 1)⟩,
  ⟨(some 12), 11, none, .call (.c (.fn 41)) [((.t 11), .plain)]⟩,
  ⟨(some 10), 0, none, .mv (.t 12)⟩,
  ⟨(some 13), 0, none, .ext (.t 10) 0⟩,
  ⟨(some 14), 0, none, .ext (.t 10) 1⟩,
  ⟨(some 5), 0, none, .mv (.t 13)⟩,
  ⟨(some 6), 0, none, .mv (.t 14)⟩]) (.seq (.reg [⟨(some 15), 0, none, .mv (.t 5)⟩,
  ⟨(some 16), 0, none, .mv (.t 6)⟩,
  ⟨(some 17), 21, none, .bsl 1 [(.t 15), (.t 16)]⟩,
  ⟨(some 4), 0, none, .mv (.t 17)⟩]) .ret)) .skip)) (.seq (.seq (.reg [⟨(some 18), 0, none, .mv (.t 0)⟩,
  ⟨(some 19), 0, none, .mv (.t 1)⟩,
  ⟨(some 20), 22, none, .call (.c (.fn 42)) [((.t 18), .view 8), ((.c (.int .i64 3)), .plain), ((.t 19), .plain)]⟩,
  ⟨(some 7), 0, none, .mv (.t 20)⟩]) (.seq (.reg [⟨(some 21), 0, none, .mv (.t 7)⟩,
  ⟨(some 22), 0, none, .bin .geq (.t 21) (.c (.int .i64 0))⟩]) (.cond (.t 22) (.seq (.reg [⟨(some 23), 0, none, .mv (.t 0)⟩,
  ⟨(some 24), 0, none, .mv (.t 7)⟩,
  ⟨(some 25), 0, none, .ia (.t 23) (.t 24) 8⟩,
  ⟨(some 26), 0, none, .fa (.t 25) 4⟩,
  ⟨(some 27), 0, none, .ld (.t 26) none⟩,
  ⟨(some 28), 32, none, .app (.c .nilsl) (.t 27) 1 4 false⟩,
  ⟨(some 4), 0, none, .mv (.t 28)⟩]) .ret) .skip))) (.seq (.reg [⟨(some 4), 0, none, .mv (.c .nilsl)⟩]) .ret))))
def rs15 : List (Nat × Option Nat × Mode) := [(4, none, .move 1)]
theorem chk15 : chkC Try.prog Try.f15.ntmps b15 (Try.f15.body.getD .skip) = true := by decide +kernel
theorem top15 {args : List Arg} {out : Out} (ha : args.length.ble Try.f15.ntmps = true) (h8 : args.length.ble 8 = true) (mss : List (List (Option Nat))) (hb : backOK args out.back)
    (hw : rnC Try.prog b15 (topQ rs15 args mss out) (slotsOf (argsAV argBase args 0) 0) (argsOb argBase args 0)) : CW Try.prog 15 args out :=
  CW.of Try.func15 rs15 mss (by decide +kernel) (by decide +kernel) (by decide +kernel) ha h8 chk15 hb hw
/- endonym/canon.Primary -/
def b16 : IC := (.seq (.reg [⟨(some 4), 0, none, .mv (.c (.int .i32 0))⟩,
  ⟨(some 5), 0, none, .mv (.c (.int .i32 0))⟩,
  ⟨(some 6), 0, none, .mv (.c (.bool false))⟩]) (.seq (.seq (.reg [⟨(some 8), 0, none, .mv (.t 1)⟩,
  ⟨(some 9), 1, none, .call (.c (.fn 40)) [((.t 8), .plain)]⟩]) (.cond (.t 9) (.seq (.reg [⟨(some 11), 0, none, .mv (.t 1)⟩,
  ⟨(some 12), 11, none, .call (.c (.fn 41)) [((.t 11), .plain)]⟩,
  ⟨(some 10), 0, none, .mv (.t 12)⟩,
  ⟨(some 13), 0, none, .ext (.t 10) 0⟩,
  ⟨(some 14), 0, none, .ext (.t 10) 1⟩,
  ⟨(some 4), 0, none, .mv (.t 13)⟩,
  ⟨(some 5), 0, none, .mv (.t 14)⟩]) (.seq (.reg [⟨(some 15), 0, none, .mv (.t 4)⟩,
  ⟨(some 16), 0, none, .mv (.t 5)⟩,
  ⟨(some 4), 0, none, .mv (.t 15)⟩,
  ⟨(some 5), 0, none, .mv (.t 16)⟩,
  ⟨(some 6), 0, none, .mv (.c (.bool true))⟩]) .ret)) .skip)) (.seq (.reg [⟨(some 17), 0, none, .mv (.t 0)⟩,
  ⟨(some 18), 0, none, .mv (.t 1)⟩,
  ⟨(some 19), 21, none, .call (.c (.fn 42)) [((.t 17), .view 8), ((.c (.int .i64 3)), .plain), ((.t 18), .plain)]⟩,
  ⟨(some 7), 0, none, .mv (.t 19)⟩]) (.seq (.seq (.reg [⟨(some 20), 0, none, .mv (.t 7)⟩,
  ⟨(some 21), 0, none, .bin .lss (.t 20) (.c (.int .i64 0))⟩,
  ⟨(some 22), 0, none, .mv (.t 21)⟩,
  ⟨(some 23), 0, (some (22, false)), .mv (.t 0)⟩,
  ⟨(some 24), 0, (some (22, false)), .mv (.t 7)⟩,
  ⟨(some 25), 0, (some (22, false)), .ia (.t 23) (.t 24) 8⟩,
  ⟨(some 26), 0, (some (22, false)), .fa (.t 25) 0⟩,
  ⟨(some 27), 0, (some (22, false)), .ld (.t 26) none⟩,
  ⟨(some 28), 0, (some (22, false)), .bin .neq (.t 27) (.c (.int .i64 7))⟩,
  ⟨(some 29), 0, none, .pick (.t 22) (.c (.bool true)) (.t 28)⟩,
  ⟨(some 30), 0, none, .mv (.t 29)⟩,
  ⟨(some 31), 0, (some (30, false)), .mv (.t 0)⟩,
  ⟨(some 32), 0, (some (30, false)), .mv (.t 7)⟩,
  ⟨(some 33), 0, (some (30, false)), .ia (.t 31) (.t 32) 8⟩,
  ⟨(some 34), 0, (some (30, false)), .fa (.t 33) 4⟩,
  ⟨(some 35), 0, (some (30, false)), .ld (.t 34) none⟩,
  ⟨(some 36), 0, (some (30, false)), .len false (.t 35)⟩,
  ⟨(some 37), 0, (some (30, false)), .bin .neq (.t 36) (.c (.int .i64 2))⟩,
  ⟨(some 38), 0, none, .pick (.t 30) (.c (.bool true)) (.t 37)⟩]) (.cond (.t 38) (.seq (.reg [⟨(some 4), 0, none, .mv (.c (.int .i32 0))⟩,
  ⟨(some 5), 0, none, .mv (.c (.int .i32 0))⟩,
  ⟨(some 6), 0, none, .mv (.c (.bool false))⟩]) .ret) .skip)) (.seq (.draw (.take 0 ⟨(some 39), 0, none, .mv (.t 0)⟩ (.take 1 ⟨(some 40), 0, none, .mv (.t 7)⟩ (.take 2 ⟨(some 41), 0, none, .ia (.t 39) (.t 40) 8⟩ (.take 3 ⟨(some 42), 0, none, .fa (.t 41) 4⟩ (.take 4 ⟨(some 43), 0, none, .ld (.t 42) none⟩ (.take 5 ⟨(some 44), 0, none, .ia (.t 43) (.c (.int .i64 0)) 1⟩ (.take 6 ⟨(some 45), 0, none, .ld (.t 44) none⟩ (.take 7 ⟨(some 46), 0, none, .mv (.t 0)⟩ (.take 8 ⟨(some 47), 0, none, .mv (.t 7)⟩ (.take 9 ⟨(some 48), 0, none, .ia (.t 46) (.t 47) 8⟩ (.take 10 ⟨(some 49), 0, none, .fa (.t 48) 4⟩ (.take 11 ⟨(some 50), 0, none, .ld (.t 49) none⟩ (.take 12 ⟨(some 51), 0, none, .ia (.t 50) (.c (.int .i64 1)) 1⟩ (.take 13 ⟨(some 52), 0, none, .ld (.t 51) none⟩ (.take 14 ⟨(some 4), 0, none, .mv (.t 45)⟩ (.take 15 ⟨(some 5), 0, none, .mv (.t 52)⟩ (.take 16 ⟨(some 6), 0, none, .mv (.c (.bool true))⟩ .done)))))))))))))))))) .ret)))))
def rs16 : List (Nat × Option Nat × Mode) := [(4, none, .plain), (5, none, .plain), (6, none, .plain)]
theorem chk16 : chkC Try.prog Try.f16.ntmps b16 (Try.f16.body.getD .skip) = true := by decide +kernel
theorem top16 {args : List Arg} {out : Out} (ha : args.length.ble Try.f16.ntmps = true) (h8 : args.length.ble 8 = true) (mss : List (List (Option Nat))) (hb : backOK args out.back)
    (hw : rnC Try.prog b16 (topQ rs16 args mss out) (slotsOf (argsAV argBase args 0) 0) (argsOb argBase args 0)) : CW Try.prog 16 args out :=
  CW.of Try.func16 rs16 mss (by decide +kernel) (by decide +kernel) (by decide +kernel) ha h8 chk16 hb hw

/-- The record of a family that speaks of a number. -/
def hit (l : List Rec) (f c : Int) : Option Rec := if f < 1 ∨ 9 < f then none else l.find? fun r => decide (famK r.kind = f) && speaksR r c
theorem findR_cases (f c : Int) : ∀ (l : List Rec) (k : Nat), (findR f c l k = -1 ∧ (l.find? fun r => decide (famK r.kind = f) && speaksR r c) = none) ∨
    ∃ j r, findR f c l k = ((k + j : Nat) : Int) ∧ j < l.length ∧ (recs l).getD j .undef = r.cv ∧ r ∈ l ∧ (l.find? fun r => decide (famK r.kind = f) && speaksR r c) = some r
  | [], k => .inl ⟨rfl, rfl⟩
  | r :: l, k => by
    unfold findR
    by_cases h : famK r.kind = f ∧ speaksR r c = true
    · rw [if_pos h]
      exact .inr ⟨0, r, by simp, by simp, by simp [recs], by simp, by simp [List.find?, h]⟩
    · rw [if_neg h]
      have hb : (decide (famK r.kind = f) && speaksR r c) = false := by
        cases hs : speaksR r c <;> simp [hs] at h ⊢
        exact h
      rcases findR_cases f c l (k + 1) with ⟨h1, h2⟩ | ⟨j, r', h1, h2, h3, h4, h5⟩
      · exact .inl ⟨by simpa using h1, by simp [List.find?, hb]; simpa using h2⟩
      · refine .inr ⟨j + 1, r', ?_, by simpa using h2, by simpa [recs] using h3, by simp [h4], by simp only [List.find?, hb]; exact h5⟩
        have : ((k : Int) + 1) = ((k + 1 : Nat) : Int) := by simp
        rw [this, h1]
        congr 1
        omega
theorem find_cases (l : List Rec) (f c : Int) : (find l f c = -1 ∧ hit l f c = none) ∨
    ∃ (k : Nat) (r : Rec), find l f c = k ∧ k < l.length ∧ (recs l).getD k .undef = r.cv ∧ r ∈ l ∧ hit l f c = some r := by
  unfold find hit
  by_cases h : f < 1 ∨ 9 < f
  · rw [if_pos h, if_pos h]; exact .inl ⟨rfl, rfl⟩
  · rw [if_neg h, if_neg h]
    rcases findR_cases f c l 0 with h1 | ⟨j, r, h1, h2, h3, h4, h5⟩
    · exact .inl h1
    · exact .inr ⟨j, r, by simpa using h1, h2, h3, h4, h5⟩

def classL (l : List Rec) (c : Int) : Int :=
  match hit l 2 c with
  | some r => r.n
  | none => 0
theorem w18 (l : List Rec) (c : Int) (hl : ∀ r ∈ l, r.ok) (hn : l.length < 9223372036854775808) (hc : i32ok c) (Q : Ex → Slots → LH → Prop) (hQ : ∀ σ H, Slots.get σ 4 = .c (.int .i64 (classL l c)) → Q .ret σ H) : rnC Try.prog b18 Q [(0, .c (.sl 8 (recs l))), (1, .c (.int .i32 c))] [] := by
  unfold b18
  simp only [go_sem, ↓reduceIte, Nat.reduceEqDiff, Nat.reduceMul, Nat.reduceAdd, Nat.reduceDiv, Nat.reduceSub, Nat.reduceLT, Nat.reduceLeDiff, Int.reduceLE, Int.reduceLT, Int.reduceToNat, Int.reduceEq]
  refine callK_1 _ (fun _ => cw42 l _ _ hl hn hc) (by simp only [go_sem, ↓reduceIte, Nat.reduceEqDiff, Nat.reduceMul, Nat.reduceAdd, Nat.reduceDiv, Nat.reduceSub, Nat.reduceLT, Nat.reduceLeDiff, Int.reduceLE, Int.reduceLT, Int.reduceToNat, Int.reduceEq]) rfl rfl ?_
  rcases find_cases l 2 c with ⟨h1, h2⟩ | ⟨k, r, h1, h2, h3, h4, h5⟩
  · simp only [go_sem, ↓reduceIte, Nat.reduceEqDiff, Nat.reduceMul, Nat.reduceAdd, Nat.reduceDiv, Nat.reduceSub, Nat.reduceLT, Nat.reduceLeDiff, Int.reduceLE, Int.reduceLT, Int.reduceToNat, Int.reduceEq, h1]
    exact hQ _ _ (by simp only [go_sem, ↓reduceIte, Nat.reduceEqDiff, Nat.reduceMul, Nat.reduceAdd, Nat.reduceDiv, Nat.reduceSub, Nat.reduceLT, Nat.reduceLeDiff, Int.reduceLE, Int.reduceLT, Int.reduceToNat, Int.reduceEq, classL, h2])
  · simp only [go_sem, ↓reduceIte, Nat.reduceEqDiff, Nat.reduceMul, Nat.reduceAdd, Nat.reduceDiv, Nat.reduceSub, Nat.reduceLT, Nat.reduceLeDiff, Int.reduceLE, Int.reduceLT, Int.reduceToNat, Int.reduceEq, h1, h3]
    exact ⟨fun h => ⟨by omega, hQ _ _ (by simp only [go_sem, ↓reduceIte, Nat.reduceEqDiff, Nat.reduceMul, Nat.reduceAdd, Nat.reduceDiv, Nat.reduceSub, Nat.reduceLT, Nat.reduceLeDiff, Int.reduceLE, Int.reduceLT, Int.reduceToNat, Int.reduceEq, classL, h5])⟩, fun h => by omega⟩
theorem cw18 (l : List Rec) (c : Int) (hl : ∀ r ∈ l, r.ok) (hn : l.length < 9223372036854775808) (hc : i32ok c) : CW Try.prog 18 [.cv (.sl 8 (recs l)), .cv (.int .i32 c)] ⟨[.cv (.int .i64 (classL l c))], []⟩ :=
  top18 rfl rfl [] trivial (w18 l c hl hn hc _ fun σ H h => ret1 rfl h)

/-- What a number opens to. -/
def openL (l : List Rec) (c : Int) : List Int :=
  if syl c = true then [partA c, partB c] else
  match hit l 3 c with
  | some r => r.to
  | none => []
theorem w15 (l : List Rec) (c : Int) (hl : ∀ r ∈ l, r.ok) (hn : l.length < 9223372036854775808) (hto : ∀ r ∈ l, r.to.length ≤ 35184372088832) (hc : i32ok c) (Q : Ex → Slots → LH → Prop)
    (hQ : ∀ σ H, OwnAt 1 (runes (openL l c)) (Slots.get σ 4) H → Q .ret σ H) : rnC Try.prog b15 Q [(0, .c (.sl 8 (recs l))), (1, .c (.int .i32 c))] [] := by
  unfold b15
  simp only [go_sem, ↓reduceIte, Nat.reduceEqDiff, Nat.reduceMul, Nat.reduceAdd, Nat.reduceDiv, Nat.reduceSub, Nat.reduceLT, Nat.reduceLeDiff, Int.reduceLE, Int.reduceLT, Int.reduceToNat, Int.reduceEq]
  refine callK_1 _ (fun _ => cw40 _) (by simp only [go_sem, ↓reduceIte, Nat.reduceEqDiff, Nat.reduceMul, Nat.reduceAdd, Nat.reduceDiv, Nat.reduceSub, Nat.reduceLT, Nat.reduceLeDiff, Int.reduceLE, Int.reduceLT, Int.reduceToNat, Int.reduceEq]) rfl rfl ?_
  simp only [go_sem, ↓reduceIte, Nat.reduceEqDiff, Nat.reduceMul, Nat.reduceAdd, Nat.reduceDiv, Nat.reduceSub, Nat.reduceLT, Nat.reduceLeDiff, Int.reduceLE, Int.reduceLT, Int.reduceToNat, Int.reduceEq]
  refine ⟨fun hs => ?_, fun hs => ?_⟩
  · refine callK_2 _ _ (fun _ => cw41 _) (by simp only [go_sem, ↓reduceIte, Nat.reduceEqDiff, Nat.reduceMul, Nat.reduceAdd, Nat.reduceDiv, Nat.reduceSub, Nat.reduceLT, Nat.reduceLeDiff, Int.reduceLE, Int.reduceLT, Int.reduceToNat, Int.reduceEq]) rfl rfl ?_
    simp only [go_sem, ↓reduceIte, Nat.reduceEqDiff, Nat.reduceMul, Nat.reduceAdd, Nat.reduceDiv, Nat.reduceSub, Nat.reduceLT, Nat.reduceLeDiff, Int.reduceLE, Int.reduceLT, Int.reduceToNat, Int.reduceEq]
    have ho : openL l c = [partA c, partB c] := by simp [openL, hs]
    rw [ho] at hQ
    exact hQ _ _ (.inr ⟨_, rfl, rfl⟩)
  · refine callK_1 _ (fun _ => cw42 l _ _ hl hn hc) (by simp only [go_sem, ↓reduceIte, Nat.reduceEqDiff, Nat.reduceMul, Nat.reduceAdd, Nat.reduceDiv, Nat.reduceSub, Nat.reduceLT, Nat.reduceLeDiff, Int.reduceLE, Int.reduceLT, Int.reduceToNat, Int.reduceEq]) rfl rfl ?_
    rcases find_cases l 3 c with ⟨h1, h2⟩ | ⟨k, r, h1, h2, h3, h4, h5⟩
    · simp only [go_sem, ↓reduceIte, Nat.reduceEqDiff, Nat.reduceMul, Nat.reduceAdd, Nat.reduceDiv, Nat.reduceSub, Nat.reduceLT, Nat.reduceLeDiff, Int.reduceLE, Int.reduceLT, Int.reduceToNat, Int.reduceEq, h1]
      exact hQ _ _ (.inl ⟨rfl, by simp [openL, hs, h2, runes]⟩)
    · simp only [go_sem, ↓reduceIte, Nat.reduceEqDiff, Nat.reduceMul, Nat.reduceAdd, Nat.reduceDiv, Nat.reduceSub, Nat.reduceLT, Nat.reduceLeDiff, Int.reduceLE, Int.reduceLT, Int.reduceToNat, Int.reduceEq, h1, h3]
      have ho : openL l c = r.to := by simp [openL, hs, h5]
      have := hto r h4
      rw [ho] at hQ
      exact ⟨fun h => ⟨by omega, by omega, hQ _ _ (own_at rfl (by simp [runes]) rfl)⟩, fun h => by omega⟩
theorem cw15 (l : List Rec) (c : Int) (hl : ∀ r ∈ l, r.ok) (hn : l.length < 9223372036854775808) (hto : ∀ r ∈ l, r.to.length ≤ 35184372088832) (hc : i32ok c) : CW Try.prog 15 [.cv (.sl 8 (recs l)), .cv (.int .i32 c)] ⟨[.own 1 (runes (openL l c))], []⟩ :=
  top15 rfl rfl [] trivial (w15 l c hl hn hto hc _ fun σ H h => retO rfl h)
/-- Whether it composes again. -/
def primL (l : List Rec) (c : Int) : Int × Int × Bool :=
  if syl c = true then (partA c, partB c, true) else
  match hit l 3 c with
  | some r => if r.kind = 7 then (match r.to with | [a, b] => (a, b, true) | _ => (0, 0, false)) else (0, 0, false)
  | none => (0, 0, false)
theorem w16 (l : List Rec) (c : Int) (hl : ∀ r ∈ l, r.ok) (hn : l.length < 9223372036854775808) (hc : i32ok c) (Q : Ex → Slots → LH → Prop)
    (hQ : ∀ σ H, Slots.get σ 4 = .c (.int .i32 (primL l c).1) → Slots.get σ 5 = .c (.int .i32 (primL l c).2.1) → Slots.get σ 6 = .c (.bool (primL l c).2.2) → Q .ret σ H) :
    rnC Try.prog b16 Q [(0, .c (.sl 8 (recs l))), (1, .c (.int .i32 c))] [] := by
  unfold b16
  simp only [go_sem, ↓reduceIte, Nat.reduceEqDiff, Nat.reduceMul, Nat.reduceAdd, Nat.reduceDiv, Nat.reduceSub, Nat.reduceLT, Nat.reduceLeDiff, Int.reduceLE, Int.reduceLT, Int.reduceToNat, Int.reduceEq]
  refine callK_1 _ (fun _ => cw40 _) (by simp only [go_sem, ↓reduceIte, Nat.reduceEqDiff, Nat.reduceMul, Nat.reduceAdd, Nat.reduceDiv, Nat.reduceSub, Nat.reduceLT, Nat.reduceLeDiff, Int.reduceLE, Int.reduceLT, Int.reduceToNat, Int.reduceEq]) rfl rfl ?_
  simp only [go_sem, ↓reduceIte, Nat.reduceEqDiff, Nat.reduceMul, Nat.reduceAdd, Nat.reduceDiv, Nat.reduceSub, Nat.reduceLT, Nat.reduceLeDiff, Int.reduceLE, Int.reduceLT, Int.reduceToNat, Int.reduceEq]
  refine ⟨fun hs => ?_, fun hs => ?_⟩
  · refine callK_2 _ _ (fun _ => cw41 _) (by simp only [go_sem, ↓reduceIte, Nat.reduceEqDiff, Nat.reduceMul, Nat.reduceAdd, Nat.reduceDiv, Nat.reduceSub, Nat.reduceLT, Nat.reduceLeDiff, Int.reduceLE, Int.reduceLT, Int.reduceToNat, Int.reduceEq]) rfl rfl ?_
    simp only [go_sem, ↓reduceIte, Nat.reduceEqDiff, Nat.reduceMul, Nat.reduceAdd, Nat.reduceDiv, Nat.reduceSub, Nat.reduceLT, Nat.reduceLeDiff, Int.reduceLE, Int.reduceLT, Int.reduceToNat, Int.reduceEq]
    have ho : primL l c = (partA c, partB c, true) := by simp [primL, hs]
    rw [ho] at hQ
    exact hQ _ _ rfl rfl rfl
  · refine callK_1 _ (fun _ => cw42 l _ _ hl hn hc) (by simp only [go_sem, ↓reduceIte, Nat.reduceEqDiff, Nat.reduceMul, Nat.reduceAdd, Nat.reduceDiv, Nat.reduceSub, Nat.reduceLT, Nat.reduceLeDiff, Int.reduceLE, Int.reduceLT, Int.reduceToNat, Int.reduceEq]) rfl rfl ?_
    rcases find_cases l 3 c with ⟨h1, h2⟩ | ⟨k, r, h1, h2, h3, h4, h5⟩
    · simp only [go_sem, ↓reduceIte, Nat.reduceEqDiff, Nat.reduceMul, Nat.reduceAdd, Nat.reduceDiv, Nat.reduceSub, Nat.reduceLT, Nat.reduceLeDiff, Int.reduceLE, Int.reduceLT, Int.reduceToNat, Int.reduceEq, h1]
      have ho : primL l c = (0, 0, false) := by simp [primL, hs, h2]
      rw [ho] at hQ
      have e : (recs l).getD 0 .undef = .undef ∨ ∃ r : Rec, (recs l).getD 0 .undef = r.cv := by
        cases l with
        | nil => exact .inl rfl
        | cons r l => exact .inr ⟨r, rfl⟩
      rcases e with e | ⟨r, e⟩ <;> simp only [go_sem, ↓reduceIte, Nat.reduceEqDiff, Nat.reduceMul, Nat.reduceAdd, Nat.reduceDiv, Nat.reduceSub, Nat.reduceLT, Nat.reduceLeDiff, Int.reduceLE, Int.reduceLT, Int.reduceToNat, Int.reduceEq, e]
      all_goals exact hQ _ _ rfl rfl rfl
    · by_cases h7 : r.kind = 7 ∧ ∃ a b, r.to = [a, b]
      · obtain ⟨h7, a, b', hto⟩ := h7
        have ho : primL l c = (a, b', true) := by simp [primL, hs, h5, h7, hto]
        rw [ho] at hQ
        have e0 : (runes r.to).getD 0 .undef = .int .i32 a := by simp [hto, runes]
        have e1 : (runes r.to).getD 1 .undef = .int .i32 b' := by simp [hto, runes]
        have el : r.to.length = 2 := by simp [hto]
        simp only [go_sem, ↓reduceIte, Nat.reduceEqDiff, Nat.reduceMul, Nat.reduceAdd, Nat.reduceDiv, Nat.reduceSub, Nat.reduceLT, Nat.reduceLeDiff, Int.reduceLE, Int.reduceLT, Int.reduceToNat, Int.reduceEq, h1, h3, e0, e1, el]
        refine ⟨fun _ => by omega, fun _ => by omega, fun h => by omega, fun _ => ?_⟩
        exact ⟨by omega, by omega, by omega, by omega, hQ _ _ rfl rfl rfl⟩
      · have ho : primL l c = (0, 0, false) := by
          simp only [primL, hs, h5]
          rw [if_neg (by simp)]
          by_cases h : r.kind = 7
          · rw [if_pos h]
            split
            · rename_i a b' e; exact absurd ⟨h, a, b', e⟩ h7
            · rfl
          · rw [if_neg h]
        rw [ho] at hQ
        simp only [go_sem, ↓reduceIte, Nat.reduceEqDiff, Nat.reduceMul, Nat.reduceAdd, Nat.reduceDiv, Nat.reduceSub, Nat.reduceLT, Nat.reduceLeDiff, Int.reduceLE, Int.reduceLT, Int.reduceToNat, Int.reduceEq, h1, h3]
        refine ⟨fun _ => by omega, fun _ => by omega, fun _ => hQ _ _ rfl rfl rfl, fun h => absurd ?_ h7⟩
        match hto : r.to, h with
        | [a, b'], h => exact ⟨h.1.2, a, b', rfl⟩
        | [], h => simp at h
        | [_], h => simp at h
        | _ :: _ :: _ :: _, h => simp at h; omega
theorem cw16 (l : List Rec) (c : Int) (hl : ∀ r ∈ l, r.ok) (hn : l.length < 9223372036854775808) (hc : i32ok c) :
    CW Try.prog 16 [.cv (.sl 8 (recs l)), .cv (.int .i32 c)] ⟨[.cv (.int .i32 (primL l c).1), .cv (.int .i32 (primL l c).2.1), .cv (.bool (primL l c).2.2)], []⟩ :=
  top16 rfl rfl [] trivial (w16 l c hl hn hc _ fun σ H h h' h'' => ret3 rfl h h' h'')
end Go.Proofs.Ytcpdnpaedkcebaa.V
