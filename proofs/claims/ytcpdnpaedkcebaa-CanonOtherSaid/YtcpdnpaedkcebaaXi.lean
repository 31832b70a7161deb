/- Contracts: what is wrong with a record. -/
import Derived.Test.YtcpdnpaedkcebaaXh
import Derived.Test.YtcpdnpaedkcebaaXf
namespace Go.Proofs.Ytcpdnpaedkcebaa.V
open Go Go.RowKit
set_option linter.unusedVariables false
set_option linter.unusedSimpArgs false
set_option maxRecDepth 100000
/- endonym/canon.wrong -/
def l50_0 : IC := (.seq (.seq (.reg [⟨(some 37), 0, none, .mv (.t 8)⟩,
  ⟨(some 38), 0, none, .mv (.t 6)⟩,
  ⟨(some 39), 0, none, .len false (.t 38)⟩,
  ⟨(some 40), 0, none, .bin .lss (.t 37) (.t 39)⟩]) (.cond (.t 40) .skip (.exit 0))) (.seq (.block 1 (.seq (.reg [⟨(some 43), 0, none, .mv (.t 0)⟩,
  ⟨(some 44), 0, none, .mv (.t 6)⟩,
  ⟨(some 45), 0, none, .mv (.t 8)⟩,
  ⟨(some 46), 0, none, .ia (.t 44) (.t 45) 1⟩,
  ⟨(some 47), 0, none, .ld (.t 46) none⟩,
  ⟨(some 48), 32, none, .call (.c (.fn 18)) [((.t 43), .view 8), ((.t 47), .plain)]⟩,
  ⟨(some 9), 0, none, .mv (.t 48)⟩]) (.seq (.reg [⟨(some 49), 0, none, .mv (.t 9)⟩,
  ⟨(some 50), 0, none, .bin .neq (.t 49) (.c (.int .i64 0))⟩,
  ⟨(some 51), 0, none, .mv (.t 50)⟩,
  ⟨(some 52), 0, (some (51, true)), .mv (.t 0)⟩,
  ⟨(some 53), 0, (some (51, true)), .mv (.t 6)⟩,
  ⟨(some 54), 0, (some (51, true)), .mv (.t 8)⟩,
  ⟨(some 55), 0, (some (51, true)), .bin .sub (.t 54) (.c (.int .i64 1))⟩,
  ⟨(some 56), 0, (some (51, true)), .ia (.t 53) (.t 55) 1⟩,
  ⟨(some 57), 0, (some (51, true)), .ld (.t 56) none⟩,
  ⟨(some 58), 42, (some (51, true)), .call (.c (.fn 18)) [((.t 52), .view 8), ((.t 57), .plain)]⟩,
  ⟨(some 59), 0, (some (51, true)), .mv (.t 9)⟩,
  ⟨(some 60), 0, (some (51, true)), .bin .gtr (.t 58) (.t 59)⟩,
  ⟨(some 61), 0, none, .pick (.t 51) (.t 60) (.c (.bool false))⟩]) (.cond (.t 61) (.seq (.reg [⟨(some 4), 0, none, .mv (.c (.int .i64 75))⟩]) .ret) .skip)))) (.reg [⟨(some 41), 0, none, .mv (.t 8)⟩,
  ⟨(some 42), 0, none, .bin .add (.t 41) (.c (.int .i64 1))⟩,
  ⟨(some 8), 0, none, .mv (.t 42)⟩])))
def b50 : IC := (.seq (.reg [⟨(some 3), 1, none, .box (.t 1)⟩,
  ⟨(some 4), 0, none, .mv (.c (.int .i64 0))⟩]) (.seq (.reg [⟨(some 10), 0, none, .fa (.t 3) 0⟩,
  ⟨(some 11), 0, none, .ld (.t 10) none⟩,
  ⟨(some 12), 2, none, .call (.c (.fn 28)) [((.t 11), .plain)]⟩,
  ⟨(some 5), 0, none, .mv (.t 12)⟩]) (.seq (.seq (.reg [⟨(some 13), 0, none, .mv (.t 5)⟩,
  ⟨(some 14), 0, none, .bin .neq (.t 13) (.c (.int .i64 2))⟩,
  ⟨(some 15), 0, none, .mv (.t 14)⟩,
  ⟨(some 16), 0, (some (15, true)), .mv (.t 5)⟩,
  ⟨(some 17), 0, (some (15, true)), .bin .neq (.t 16) (.c (.int .i64 3))⟩,
  ⟨(some 18), 0, none, .pick (.t 15) (.t 17) (.c (.bool false))⟩]) (.cond (.t 18) (.seq (.reg [⟨(some 4), 0, none, .mv (.c (.int .i64 0))⟩]) .ret) .skip)) (.seq (.seq (.reg [⟨(some 19), 0, none, .fa (.t 3) 1⟩,
  ⟨(some 20), 0, none, .ld (.t 19) none⟩,
  ⟨(some 21), 0, none, .bin .lss (.t 20) (.c (.int .i64 128))⟩]) (.cond (.t 21) (.seq (.reg [⟨(some 4), 0, none, .mv (.c (.int .i64 70))⟩]) .ret) .skip)) (.seq (.seq (.reg [⟨(some 22), 0, none, .ld (.t 3) (some 8)⟩,
  ⟨(some 23), 12, none, .call (.c (.fn 70)) [((.t 22), .plain)]⟩]) (.cond (.t 23) (.seq (.reg [⟨(some 4), 0, none, .mv (.c (.int .i64 71))⟩]) .ret) .skip)) (.seq (.seq (.reg [⟨(some 24), 0, none, .mv (.t 5)⟩,
  ⟨(some 25), 0, none, .bin .eql (.t 24) (.c (.int .i64 2))⟩]) (.cond (.t 25) (.seq (.reg [⟨(some 4), 0, none, .mv (.c (.int .i64 0))⟩]) .ret) .skip)) (.seq (.reg [⟨(some 27), 0, none, .mv (.t 0)⟩,
  ⟨(some 28), 0, none, .fa (.t 3) 1⟩,
  ⟨(some 29), 0, none, .ld (.t 28) none⟩,
  ⟨(some 30), 0, none, .conv .i32 (.t 29)⟩,
  ⟨(some 31), 22, none, .call (.c (.fn 24)) [((.t 27), .view 8), ((.t 30), .plain)]⟩,
  ⟨(some 26), 0, none, .mv (.t 31)⟩,
  ⟨(some 32), 0, none, .ext (.t 26) 0⟩,
  ⟨(some 33), 0, none, .ext (.t 26) 1⟩,
  ⟨(some 6), 0, none, .mv (.t 32)⟩,
  ⟨(some 7), 0, none, .mv (.t 33)⟩]) (.seq (.seq (.reg [⟨(some 34), 0, none, .mv (.t 7)⟩,
  ⟨(some 35), 0, none, .bin .neq (.t 34) (.c (.int .i64 0))⟩]) (.cond (.t 35) (.seq (.reg [⟨(some 36), 0, none, .mv (.t 7)⟩,
  ⟨(some 4), 0, none, .mv (.t 36)⟩]) .ret) .skip)) (.seq (.seq (.reg [⟨(some 8), 0, none, .mv (.c (.int .i64 1))⟩]) (.block 0 (.loop0 [0, 3, 6, 8] l50_0))) (.seq (.seq (.reg [⟨(some 62), 0, none, .fa (.t 3) 0⟩,
  ⟨(some 63), 0, none, .ld (.t 62) none⟩,
  ⟨(some 64), 0, none, .bin .eql (.t 63) (.c (.int .i64 7))⟩,
  ⟨(some 65), 0, none, .mv (.t 64)⟩,
  ⟨(some 66), 0, (some (65, true)), .mv (.t 0)⟩,
  ⟨(some 67), 0, (some (65, true)), .ld (.t 3) (some 8)⟩,
  ⟨(some 68), 52, (some (65, true)), .call (.c (.fn 71)) [((.t 66), .view 8), ((.t 67), .plain)]⟩,
  ⟨(some 69), 0, (some (65, true)), .not (.t 68)⟩,
  ⟨(some 70), 0, none, .pick (.t 65) (.t 69) (.c (.bool false))⟩]) (.cond (.t 70) (.seq (.reg [⟨(some 4), 0, none, .mv (.c (.int .i64 74))⟩]) .ret) .skip)) (.seq (.reg [⟨(some 4), 0, none, .mv (.c (.int .i64 0))⟩]) .ret)))))))))))
def rs50 : List (Nat × Option Nat × Mode) := [(4, none, .plain)]
theorem chk50 : chkC Try.prog Try.f50.ntmps b50 (Try.f50.body.getD .skip) = true := by decide +kernel
theorem top50 {args : List Arg} {out : Out} (ha : args.length.ble Try.f50.ntmps = true) (h8 : args.length.ble 8 = true) (mss : List (List (Option Nat))) (hb : backOK args out.back)
    (hw : rnC Try.prog b50 (topQ rs50 args mss out) (slotsOf (argsAV argBase args 0) 0) (argsOb argBase args 0)) : CW Try.prog 50 args out :=
  CW.of Try.func50 rs50 mss (by decide +kernel) (by decide +kernel) (by decide +kernel) ha h8 chk50 hb hw

def wrongP (l : List Rec) (r : Rec) : Int :=
  if ¬famK r.kind = 2 ∧ ¬famK r.kind = 3 then 0 else
  if r.lo < 128 then 70 else
  if hangulF r = true then 71 else
  if famK r.kind = 2 then 0 else
  match fullL l (IntKind.i32.wrap r.lo) with
  | .error e => e
  | .ok x => if fallsL l x = true then 75 else if r.kind = 7 ∧ pairsL l r = false then 74 else 0
theorem w50 (l : List Rec) (r : Rec) (hm : r ∈ l) (h7 : r.kind = 7 → r.to.length = 2) (hl : ∀ r ∈ l, r.ok) (hn : l.length < 9223372036854775808) (hto : ∀ r ∈ l, r.to.length ≤ 35184372088832) (Q : Ex → Slots → LH → Prop) (hQ : ∀ σ H, Slots.get σ 4 = .c (.int .i64 (wrongP l r)) → Q .ret σ H) : rnC Try.prog b50 Q [(0, .c (.sl 8 (recs l))), (1, .c (Rec.cv r))] [] := by
  unfold b50
  simp only [go_sem, ↓reduceIte, Nat.reduceEqDiff, Nat.reduceMul, Nat.reduceAdd, Nat.reduceDiv, Nat.reduceSub, Nat.reduceLT, Nat.reduceLeDiff, Int.reduceLE, Int.reduceLT, Int.reduceToNat, Int.reduceEq]
  refine callK_1 _ (fun _ => cw28 _) (by simp only [go_sem, ↓reduceIte, Nat.reduceEqDiff, Nat.reduceMul, Nat.reduceAdd, Nat.reduceDiv, Nat.reduceSub, Nat.reduceLT, Nat.reduceLeDiff, Int.reduceLE, Int.reduceLT, Int.reduceToNat, Int.reduceEq]) rfl rfl ?_
  simp only [go_sem, ↓reduceIte, Nat.reduceEqDiff, Nat.reduceMul, Nat.reduceAdd, Nat.reduceDiv, Nat.reduceSub, Nat.reduceLT, Nat.reduceLeDiff, Int.reduceLE, Int.reduceLT, Int.reduceToNat, Int.reduceEq]
  repeat (refine ⟨by (first | omega | (intro h1 h2; exact ⟨h1, h2⟩) | (intro h1; omega) | (intro h1; exact h1) | trivial), ?_⟩)
  refine ⟨fun hf => ?_, fun hf => ?_⟩
  · apply hQ
    all_goals simp only [go_sem, ↓reduceIte, Nat.reduceEqDiff, Nat.reduceMul, Nat.reduceAdd, Nat.reduceDiv, Nat.reduceSub, Nat.reduceLT, Nat.reduceLeDiff, Int.reduceLE, Int.reduceLT, Int.reduceToNat, Int.reduceEq, wrongP, if_pos hf]
  have hf' : ¬(¬famK r.kind = 2 ∧ ¬famK r.kind = 3) := by omega
  refine ⟨fun h0 => ?_, fun h0 => ?_⟩
  · apply hQ
    all_goals simp only [go_sem, ↓reduceIte, Nat.reduceEqDiff, Nat.reduceMul, Nat.reduceAdd, Nat.reduceDiv, Nat.reduceSub, Nat.reduceLT, Nat.reduceLeDiff, Int.reduceLE, Int.reduceLT, Int.reduceToNat, Int.reduceEq, wrongP, if_neg hf', if_pos h0]
  have h0' : ¬ r.lo < 128 := by omega
  refine callK_1 _ (fun _ => cw70 r h7) (by simp only [go_sem, ↓reduceIte, Nat.reduceEqDiff, Nat.reduceMul, Nat.reduceAdd, Nat.reduceDiv, Nat.reduceSub, Nat.reduceLT, Nat.reduceLeDiff, Int.reduceLE, Int.reduceLT, Int.reduceToNat, Int.reduceEq]) rfl rfl ?_
  simp only [go_sem, ↓reduceIte, Nat.reduceEqDiff, Nat.reduceMul, Nat.reduceAdd, Nat.reduceDiv, Nat.reduceSub, Nat.reduceLT, Nat.reduceLeDiff, Int.reduceLE, Int.reduceLT, Int.reduceToNat, Int.reduceEq]
  repeat (refine ⟨by (first | omega | (intro h1 h2; exact ⟨h1, h2⟩) | (intro h1; omega) | (intro h1; exact h1) | trivial), ?_⟩)
  refine ⟨fun hg => ?_, fun hg => ?_⟩
  · apply hQ
    all_goals simp only [go_sem, ↓reduceIte, Nat.reduceEqDiff, Nat.reduceMul, Nat.reduceAdd, Nat.reduceDiv, Nat.reduceSub, Nat.reduceLT, Nat.reduceLeDiff, Int.reduceLE, Int.reduceLT, Int.reduceToNat, Int.reduceEq, wrongP, if_neg hf', if_neg h0', if_pos hg]
  have hg' : ¬ hangulF r = true := by rw [hg]; simp
  refine ⟨fun h2 => ?_, fun h2 => ?_⟩
  · apply hQ
    all_goals simp only [go_sem, ↓reduceIte, Nat.reduceEqDiff, Nat.reduceMul, Nat.reduceAdd, Nat.reduceDiv, Nat.reduceSub, Nat.reduceLT, Nat.reduceLeDiff, Int.reduceLE, Int.reduceLT, Int.reduceToNat, Int.reduceEq, wrongP, if_neg hf', if_neg h0', if_neg hg', if_pos h2]
  refine callK_i ⟨[.own 1 (runes (resL (fullL l (IntKind.i32.wrap r.lo)))), .cv (.int .i64 (resE (fullL l (IntKind.i32.wrap r.lo))))], []⟩ (fun _ => cw24 l hl hn hto _ (i32wrap_ok _)) ⟨by simp only [go_sem, ↓reduceIte, Nat.reduceEqDiff, Nat.reduceMul, Nat.reduceAdd, Nat.reduceDiv, Nat.reduceSub, Nat.reduceLT, Nat.reduceLeDiff, Int.reduceLE, Int.reduceLT, Int.reduceToNat, Int.reduceEq], .inl rfl, ⟨by simp only [go_sem, ↓reduceIte, Nat.reduceEqDiff, Nat.reduceMul, Nat.reduceAdd, Nat.reduceDiv, Nat.reduceSub, Nat.reduceLT, Nat.reduceLeDiff, Int.reduceLE, Int.reduceLT, Int.reduceToNat, Int.reduceEq], by simp, by simp, by simp⟩, ?_⟩
  cases hx : fullL l (IntKind.i32.wrap r.lo) with
  | error e =>
    have he : e ≠ 0 := walkN_ne _ _ _ _ _ _ hx
    simp only [go_sem, ↓reduceIte, Nat.reduceEqDiff, Nat.reduceMul, Nat.reduceAdd, Nat.reduceDiv, Nat.reduceSub, Nat.reduceLT, Nat.reduceLeDiff, Int.reduceLE, Int.reduceLT, Int.reduceToNat, Int.reduceEq, resL, resE]
    refine ⟨fun _ => hQ _ _ ?_, fun h => absurd h he⟩
    simp only [go_sem, ↓reduceIte, Nat.reduceEqDiff, Nat.reduceMul, Nat.reduceAdd, Nat.reduceDiv, Nat.reduceSub, Nat.reduceLT, Nat.reduceLeDiff, Int.reduceLE, Int.reduceLT, Int.reduceToNat, Int.reduceEq, wrongP, if_neg hf', if_neg h0', if_neg hg', if_neg h2, hx]
  | ok x =>
    have hxl := walkN_len l 16 _ _ _ x (by decide) hx
    have hxo := walkN_ok hl 16 _ _ _ x (i32wrap_ok _) (by simp) hx
    simp only [go_sem, ↓reduceIte, Nat.reduceEqDiff, Nat.reduceMul, Nat.reduceAdd, Nat.reduceDiv, Nat.reduceSub, Nat.reduceLT, Nat.reduceLeDiff, Int.reduceLE, Int.reduceLT, Int.reduceToNat, Int.reduceEq, resL, resE]
    refine loopZR.by (α := Nat) (fun i => [(0, .c (.sl 8 (recs l))), (3, .ref 64 0), (6, .osl 1408 0 x.length), (8, .c (.int .i64 i))]) (fun _ => [(64, .obj [.c (.int .i64 r.kind), .c (.int .i64 r.lo), .c (.int .i64 r.hi), .c (.int .i64 r.n), .c (.sl 1 (runes r.to)), .c (.str r.name), .c (.str r.other), .c (.flt r.weight)]), (1408, .row 1 (runes x))]) (fun i => x.length + 1 - i) (fun i => 1 ≤ i ∧ i ≤ x.length + 1 ∧ (fallsL l (x.drop (i - 1)) = fallsL l x)) 1 ⟨by decide, by omega, rfl⟩ ?_ ?_
    · intro Y hY
      simp only [go_sem, ↓reduceIte, Nat.reduceEqDiff, Nat.reduceMul, Nat.reduceAdd, Nat.reduceDiv, Nat.reduceSub, Nat.reduceLT, Nat.reduceLeDiff, Int.reduceLE, Int.reduceLT, Int.reduceToNat, Int.reduceEq]
      exact hY
    intro i hk Y hY
    unfold l50_0
    rcases Nat.lt_or_ge i x.length with hlt | hge
    · obtain ⟨b, e, hmb, hd⟩ := runes_at hlt
      obtain ⟨a, e2, hma, hd2⟩ := runes_at (show i - 1 < x.length by omega)
      have hf := hk.2.2
      have hi : i - 1 + 1 = i := by omega
      rw [hd2, hi, hd, fallsL] at hf
      have hw : IntKind.i64.wrap ((i : Int) - 1) = ((i - 1 : Nat) : Int) := by rw [wrap_i64]; omega
      simp only [go_sem, ↓reduceIte, Nat.reduceEqDiff, Nat.reduceMul, Nat.reduceAdd, Nat.reduceDiv, Nat.reduceSub, Nat.reduceLT, Nat.reduceLeDiff, Int.reduceLE, Int.reduceLT, Int.reduceToNat, Int.reduceEq, e, hw, e2]
      refine ⟨fun _ => ?_, fun h => by omega⟩
      repeat (refine ⟨by (first | omega | (intro h1 h2; exact ⟨h1, h2⟩) | (intro h1; omega) | (intro h1; exact h1) | trivial), ?_⟩)
      refine callK_1 _ (fun _ => cw18 l b hl hn (hxo _ hmb)) (by simp only [go_sem, ↓reduceIte, Nat.reduceEqDiff, Nat.reduceMul, Nat.reduceAdd, Nat.reduceDiv, Nat.reduceSub, Nat.reduceLT, Nat.reduceLeDiff, Int.reduceLE, Int.reduceLT, Int.reduceToNat, Int.reduceEq]) rfl rfl ?_
      simp only [go_sem, ↓reduceIte, Nat.reduceEqDiff, Nat.reduceMul, Nat.reduceAdd, Nat.reduceDiv, Nat.reduceSub, Nat.reduceLT, Nat.reduceLeDiff, Int.reduceLE, Int.reduceLT, Int.reduceToNat, Int.reduceEq, hw, e2]
      repeat (refine ⟨by (first | omega | (intro h1 h2; exact ⟨h1, h2⟩) | (intro h1; omega) | (intro h1; exact h1) | trivial), ?_⟩)
      refine callK_1 _ (fun _ => cw18 l a hl hn (hxo _ hma)) (by simp only [go_sem, ↓reduceIte, Nat.reduceEqDiff, Nat.reduceMul, Nat.reduceAdd, Nat.reduceDiv, Nat.reduceSub, Nat.reduceLT, Nat.reduceLeDiff, Int.reduceLE, Int.reduceLT, Int.reduceToNat, Int.reduceEq]) rfl rfl ?_
      simp only [go_sem, ↓reduceIte, Nat.reduceEqDiff, Nat.reduceMul, Nat.reduceAdd, Nat.reduceDiv, Nat.reduceSub, Nat.reduceLT, Nat.reduceLeDiff, Int.reduceLE, Int.reduceLT, Int.reduceToNat, Int.reduceEq]
      repeat (refine ⟨by (first | omega | (intro h1 h2; exact ⟨h1, h2⟩) | (intro h1; omega) | (intro h1; exact h1) | trivial), ?_⟩)
      rw [succ64 hlt (by omega)]
      refine ⟨fun h1 => hQ _ _ ?_, fun h1 => hY (i + 1) ⟨by omega, by omega, ?_⟩ (by omega)⟩
      · have h3 : fallsL l x = true := by rw [← hf]; simp [h1.1, h1.2]
        simp only [go_sem, ↓reduceIte, Nat.reduceEqDiff, Nat.reduceMul, Nat.reduceAdd, Nat.reduceDiv, Nat.reduceSub, Nat.reduceLT, Nat.reduceLeDiff, Int.reduceLE, Int.reduceLT, Int.reduceToNat, Int.reduceEq, wrongP, if_neg hf', if_neg h0', if_neg hg', if_neg h2, hx, if_pos h3]
      · rw [← hf, show i + 1 - 1 = i by omega, hd]
        have : (!decide (classL l b = 0) && decide (classL l b < classL l a)) = false := by
          rcases h1 with h1 | h1 <;> simp [h1]
        rw [this, Bool.false_or]
    have h3 : fallsL l x = false := by rw [← hk.2.2, fallsL_short l _ (by rw [List.length_drop]; omega)]
    have h3' : ¬ fallsL l x = true := by rw [h3]; simp
    by_cases hk7 : r.kind = 7
    · obtain ⟨a, b, hab⟩ : ∃ a b, r.to = [a, b] := by
        match ho : r.to, h7 hk7 with
        | [a, b], _ => exact ⟨a, b, rfl⟩
      simp only [go_sem, ↓reduceIte, Nat.reduceEqDiff, Nat.reduceMul, Nat.reduceAdd, Nat.reduceDiv, Nat.reduceSub, Nat.reduceLT, Nat.reduceLeDiff, Int.reduceLE, Int.reduceLT, Int.reduceToNat, Int.reduceEq]
      refine ⟨fun h => by omega, fun _ => ?_⟩
      refine callK_1 _ (fun _ => cw71 l r a b hab hm hl hn hto) (by simp only [go_sem, ↓reduceIte, Nat.reduceEqDiff, Nat.reduceMul, Nat.reduceAdd, Nat.reduceDiv, Nat.reduceSub, Nat.reduceLT, Nat.reduceLeDiff, Int.reduceLE, Int.reduceLT, Int.reduceToNat, Int.reduceEq]) rfl rfl ?_
      simp only [go_sem, ↓reduceIte, Nat.reduceEqDiff, Nat.reduceMul, Nat.reduceAdd, Nat.reduceDiv, Nat.reduceSub, Nat.reduceLT, Nat.reduceLeDiff, Int.reduceLE, Int.reduceLT, Int.reduceToNat, Int.reduceEq]
      repeat (refine ⟨by (first | omega | (intro h1 h2; exact ⟨h1, h2⟩) | (intro h1; omega) | (intro h1; exact h1) | trivial), ?_⟩)
      refine ⟨fun h4 => ?_, fun h4 => ?_⟩
      all_goals
        apply hQ
        all_goals simp only [go_sem, ↓reduceIte, Nat.reduceEqDiff, Nat.reduceMul, Nat.reduceAdd, Nat.reduceDiv, Nat.reduceSub, Nat.reduceLT, Nat.reduceLeDiff, Int.reduceLE, Int.reduceLT, Int.reduceToNat, Int.reduceEq, wrongP, if_neg hf', if_neg h0', if_neg hg', if_neg h2, hx, if_neg h3']
        first
          | rw [if_pos h4]
          | rw [if_neg (by grind)]
    · simp only [go_sem, ↓reduceIte, Nat.reduceEqDiff, Nat.reduceMul, Nat.reduceAdd, Nat.reduceDiv, Nat.reduceSub, Nat.reduceLT, Nat.reduceLeDiff, Int.reduceLE, Int.reduceLT, Int.reduceToNat, Int.reduceEq]
      refine ⟨fun h => by omega, fun _ => ?_⟩
      refine callK_1 (.bool false) (fun h => absurd h (by simp [hk7])) (by simp only [go_sem, ↓reduceIte, Nat.reduceEqDiff, Nat.reduceMul, Nat.reduceAdd, Nat.reduceDiv, Nat.reduceSub, Nat.reduceLT, Nat.reduceLeDiff, Int.reduceLE, Int.reduceLT, Int.reduceToNat, Int.reduceEq]) rfl rfl ?_
      simp only [go_sem, ↓reduceIte, Nat.reduceEqDiff, Nat.reduceMul, Nat.reduceAdd, Nat.reduceDiv, Nat.reduceSub, Nat.reduceLT, Nat.reduceLeDiff, Int.reduceLE, Int.reduceLT, Int.reduceToNat, Int.reduceEq]
      repeat (refine ⟨by (first | omega | (intro h1 h2; exact ⟨h1, h2⟩) | (intro h1; omega) | (intro h1; exact h1) | trivial), ?_⟩)
      refine fun h4 => ?_
      apply hQ
      all_goals simp only [go_sem, ↓reduceIte, Nat.reduceEqDiff, Nat.reduceMul, Nat.reduceAdd, Nat.reduceDiv, Nat.reduceSub, Nat.reduceLT, Nat.reduceLeDiff, Int.reduceLE, Int.reduceLT, Int.reduceToNat, Int.reduceEq, wrongP, if_neg hf', if_neg h0', if_neg hg', if_neg h2, hx, if_neg h3']
      rw [if_neg (fun h5 => hk7 h5.1)]
theorem cw50 (l : List Rec) (r : Rec) (hm : r ∈ l) (h7 : r.kind = 7 → r.to.length = 2) (hl : ∀ r ∈ l, r.ok) (hn : l.length < 9223372036854775808) (hto : ∀ r ∈ l, r.to.length ≤ 35184372088832) : CW Try.prog 50 [.cv (.sl 8 (recs l)), .cv (Rec.cv r)] ⟨[.cv (.int .i64 (wrongP l r))], []⟩ :=
  top50 rfl rfl [] trivial (w50 l r hm h7 hl hn hto _ fun σ H h => ret1 rfl h)
end Go.Proofs.Ytcpdnpaedkcebaa.V
