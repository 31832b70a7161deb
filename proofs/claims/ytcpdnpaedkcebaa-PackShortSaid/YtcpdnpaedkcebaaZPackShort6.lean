/- Towards the law PackShort (beginnings), part 6: the texts Pl Yz Yy Xq Xt Yt, what of them is used. -/
import Derived.Test.YtcpdnpaedkcebaaZPackShort5
namespace Go.Proofs.Ytcpdnpaedkcebaa.V
open Go Go.RowKit
set_option linter.unusedVariables false
set_option linter.unusedSimpArgs false
set_option maxRecDepth 100000
def bodyL (l : List Rec) : List UInt8 := packH l.length ++ l.flatMap recL
theorem packB_eq (l : List Rec) : packB l = bodyL l ++ sum4 (sumW (bodyL l)) := rfl
theorem sum4_len (s : Nat) : (sum4 s).length = 4 := rfl
theorem body_five (l : List Rec) : bodyL l = [101, 110, 100, 111, 1] ++ (uintL l.length ++ l.flatMap recL) := by unfold bodyL packH; rw [List.append_assoc]
theorem uintL_pos (n : Nat) : 1 ≤ (uintL n).length := by rw [uintL]; split <;> simp
theorem pack_take (l : List Rec) : (packB l).length = (bodyL l).length + 4 ∧ (packB l).take ((packB l).length - 4) = bodyL l ∧ (packB l).drop ((packB l).length - 4) = sum4 (sumW (bodyL l)) := by
  have h : (packB l).length = (bodyL l).length + 4 := by rw [packB_eq, List.length_append, sum4_len]
  refine ⟨h, ?_, ?_⟩
  · rw [h, packB_eq, Nat.add_sub_cancel, List.take_left]
  · rw [h, packB_eq, Nat.add_sub_cancel, List.drop_left]
theorem pack_head {l : List Rec} (h : (packB l).length ≤ 262144) : headF (packB l) = (0, 0) := by
  obtain ⟨h1, h2, h3⟩ := pack_take l
  have h5 : 6 ≤ (bodyL l).length := by
    rw [body_five]
    have := uintL_pos l.length
    simp only [List.length_append, List.length_cons, List.length_nil]; omega
  unfold headF
  rw [if_neg (by omega), if_neg (by omega), h2, h3, if_neg (by simp)]
  have e1 : packB l = 101 :: 110 :: 100 :: 111 :: 1 :: (uintL l.length ++ l.flatMap recL ++ sum4 (sumW (bodyL l))) := by
    rw [packB_eq]
    conv => lhs; arg 1; rw [body_five]
    rfl
  rw [e1, if_neg (by simp), if_neg (by simp)]
theorem check_len {l : List Rec} (h : (checkP l).2 = 0) : l.length ≤ 4096 := by
  unfold checkP at h
  split at h
  · simp at h
  · omega
theorem unpack_pack {l : List Rec} (hok : ∀ r ∈ l, r.ok) (hw : ∀ r ∈ l, r.wok) (hc : (checkP l).2 = 0) (hl : (packB l).length ≤ 262144) : unpackF (packB l) = (l, 0, 0) := by
  have hr := check_right hok hc
  have hn := check_len hc
  obtain ⟨h1, h2, h3⟩ := pack_take l
  have hd : (bodyL l).drop (5 : Int).toNat = uintL l.length ++ l.flatMap recL := by rw [body_five]; rfl
  have h5 : 6 ≤ (bodyL l).length := by
    rw [body_five]
    have := uintL_pos l.length
    simp only [List.length_append, List.length_cons, List.length_nil]; omega
  have g1 : Rd (bodyL l) 5 (5 + (uintL l.length).length) (uintL l.length) := Rd.of (by omega) hd
  have g2 : Rd (bodyL l) 5 (bodyL l).length (uintL l.length ++ l.flatMap recL) := by
    have : ((bodyL l).length : Int) = 5 + (uintL l.length ++ l.flatMap recL).length := by rw [body_five]; simp only [List.length_append, List.length_cons, List.length_nil]; omega
    rw [this]
    exact Rd.of (q := []) (by omega) (by rw [hd, List.append_nil])
  have g3 := g2.split.2
  have g4 : rdU (bodyL l) 5 = ((l.length : Int), 5 + ((uintL l.length).length : Int), 0) := rdU_write (by rw [uintP_nat]; exact g1) (by omega) (by omega)
  obtain ⟨ps, g5⟩ := unp_write l _ _ [] [] hr hw g3
  unfold unpackF
  rw [pack_head hl, if_neg (by simp), h2, g4, if_neg (by simp), if_neg (by simp only; omega)]
  simp only [Int.toNat_natCast, g5, List.nil_append]
  rw [if_neg (by omega), if_neg (by simpa using hc)]
theorem head_parts {b : List UInt8} (h : (headF b).2 = 0) : (10 ≤ b.length ∧ b.length ≤ 262144) ∧ sum4 (sumW (b.take (b.length - 4))) = b.drop (b.length - 4) ∧ b.take 4 = [101, 110, 100, 111] ∧ b.getD 4 0 = 1 := by
  unfold headF at h
  by_cases h1 : 262144 < b.length
  · rw [if_pos h1] at h; simp at h
  rw [if_neg h1] at h
  by_cases h2 : b.length < 10
  · rw [if_pos h2] at h; simp at h
  rw [if_neg h2] at h
  by_cases h3 : sum4 (sumW (b.take (b.length - 4))) ≠ b.drop (b.length - 4)
  · rw [if_pos h3] at h; simp at h
  rw [if_neg h3] at h
  by_cases h4 : b.take 4 ≠ [101, 110, 100, 111]
  · rw [if_pos h4] at h; simp at h
  rw [if_neg h4] at h
  by_cases h5 : b.getD 4 0 ≠ 1
  · rw [if_pos h5] at h; simp at h
  exact ⟨by omega, by simpa using h3, by simpa using h4, by simpa using h5⟩
end Go.Proofs.Ytcpdnpaedkcebaa.V
namespace Go.Proofs.Ytcpdnpaedkcebaa.V
open Go Go.RowKit
set_option linter.unusedVariables false
set_option linter.unusedSimpArgs false
set_option maxRecDepth 100000
theorem packF_len (l : List Rec) : (packF l).1.length ≤ 262144 := by
  unfold packF
  split
  · exact Nat.zero_le _
  · split
    · exact Nat.zero_le _
    · exact Nat.le_of_not_lt (by assumption)
theorem packF_ok {l : List Rec} (hok : ∀ r ∈ l, r.ok) (hw : ∀ r ∈ l, r.wok) (h : (packF l).2.2 = 0) : unpackF (packF l).1 = (l, 0, 0) ∧ packF l = (packB l, 0, 0) := by
  unfold packF at h ⊢
  by_cases h1 : (checkP l).2 ≠ 0
  · rw [if_pos h1] at h; exact absurd h h1
  rw [if_neg h1] at h ⊢
  by_cases h2 : 262144 < (packB l).length
  · rw [if_pos h2] at h; simp at h
  rw [if_neg h2]
  exact ⟨unpack_pack hok hw (by simpa using h1) (by omega), rfl⟩
end Go.Proofs.Ytcpdnpaedkcebaa.V
namespace Go.Proofs.Ytcpdnpaedkcebaa.V
open Go Go.RowKit
set_option linter.unusedVariables false
set_option linter.unusedSimpArgs false
set_option maxRecDepth 100000
theorem and_pos (x : Int) : 0 ≤ bitI .and .i64 x 1099511627775 ∧ bitI .and .i64 x 1099511627775 < 1099511627776 := by
  show 0 ≤ IntKind.i64.wrap ((BitVec.ofInt 64 x &&& BitVec.ofInt 64 1099511627775).toNat : Int) ∧ IntKind.i64.wrap ((BitVec.ofInt 64 x &&& BitVec.ofInt 64 1099511627775).toNat : Int) < 1099511627776
  rw [show BitVec.ofInt 64 1099511627775 = BitVec.ofNat 64 1099511627775 by decide, BitVec.toNat_and, BitVec.toNat_ofNat, Nat.mod_eq_of_lt (a := 1099511627775) (by decide), wrap_i64]
  have : (BitVec.ofInt 64 x).toNat &&& 1099511627775 ≤ 1099511627775 := Nat.and_le_right
  omega
def sameU (b : List UInt8) (n s i : Nat) : Bool := (List.range i).all fun j => decide (b.getD (n + j) 0 = (sum4 s).getD j 0)
theorem sameU_succ (b : List UInt8) (n s i : Nat) : sameU b n s (i + 1) = (sameU b n s i && decide (b.getD (n + i) 0 = (sum4 s).getD i 0)) := by
  unfold sameU
  rw [List.range_succ, List.all_append]
  simp
theorem short_bad {b : List UInt8} {n : Nat} (h : n ≤ b.length) (hb : b.length ≤ 262144) (hx : n < 4 ∨ sameU b (n - 4) (sumW (b.take (n - 4))) 4 = false) : ∃ x : Int × Int, unpackF (b.take n) = ([], x) ∧ ¬x.2 = 0 := by
  have hl : (b.take n).length = n := by rw [List.length_take]; omega
  by_cases h10 : n < 10
  · exact ⟨_, unp_head (head_short (by omega)) (by simp), by simp⟩
  have hs : sameU b (n - 4) (sumW (b.take (n - 4))) 4 = false := by
    rcases hx with hx | hx
    · omega
    · exact hx
  have e1 : (b.take n).take ((b.take n).length - 4) = b.take (n - 4) := by rw [hl, List.take_take, Nat.min_eq_left (by omega)]
  refine ⟨_, unp_head (head_sum (by omega) (by omega) ?_) (by simp), by simp⟩
  rw [e1, hl]
  intro he
  have h4 := (four_eq (s := sumW (b.take (n - 4))) (b := b.take n) (n := n - 4) (by omega)).1 he
  have : sameU b (n - 4) (sumW (b.take (n - 4))) 4 = true := by
    unfold sameU
    rw [List.all_eq_true]
    intro j hj
    have hj := List.mem_range.1 hj
    have := h4 j hj
    rw [List.getD_eq_getElem?_getD, List.getElem?_take_of_lt (by omega), ← List.getD_eq_getElem?_getD] at this
    exact decide_eq_true this
  rw [this] at hs
  cases hs
def l13_0 : IC := (.seq (.seq (.reg [⟨(some 41), 0, none, .mv (.t 11)⟩,
  ⟨(some 42), 0, none, .bin .lss (.t 41) (.c (.int .i64 4))⟩]) (.cond (.t 42) .skip (.exit 0))) (.seq (.block 1 (.reg [⟨(some 45), 0, none, .mv (.t 10)⟩,
  ⟨(some 46), 0, none, .mv (.t 45)⟩,
  ⟨(some 47), 0, (some (46, true)), .mv (.t 5)⟩,
  ⟨(some 48), 0, (some (46, true)), .mv (.t 8)⟩,
  ⟨(some 49), 0, (some (46, true)), .bin .sub (.t 48) (.c (.int .i64 4))⟩,
  ⟨(some 50), 0, (some (46, true)), .mv (.t 11)⟩,
  ⟨(some 51), 0, (some (46, true)), .bin .add (.t 49) (.t 50)⟩,
  ⟨(some 52), 0, (some (46, true)), .ia (.t 47) (.t 51) 1⟩,
  ⟨(some 53), 0, (some (46, true)), .ld (.t 52) none⟩,
  ⟨(some 54), 0, (some (46, true)), .mv (.t 9)⟩,
  ⟨(some 55), 0, (some (46, true)), .mv (.t 11)⟩,
  ⟨(some 56), 0, (some (46, true)), .bin .mul (.c (.int .i64 8)) (.t 55)⟩,
  ⟨(some 57), 0, (some (46, true)), .conv .u64 (.t 56)⟩,
  ⟨(some 58), 0, (some (46, true)), .bin .shr (.t 54) (.t 57)⟩,
  ⟨(some 59), 0, (some (46, true)), .bin .and (.t 58) (.c (.int .u32 255))⟩,
  ⟨(some 60), 0, (some (46, true)), .conv .u8 (.t 59)⟩,
  ⟨(some 61), 0, (some (46, true)), .bin .eql (.t 53) (.t 60)⟩,
  ⟨(some 62), 0, none, .pick (.t 46) (.t 61) (.c (.bool false))⟩,
  ⟨(some 10), 0, none, .mv (.t 62)⟩])) (.reg [⟨(some 43), 0, none, .mv (.t 11)⟩,
  ⟨(some 44), 0, none, .bin .add (.t 43) (.c (.int .i64 1))⟩,
  ⟨(some 11), 0, none, .mv (.t 44)⟩])))
def n13_0 : Norm := ⟨[(5, .plain), (8, .plain), (9, .plain), (10, .plain), (11, .plain)], []⟩
def b13 : IC := (.seq (.reg [⟨(some 4), 0, none, .mv (.c (.bool false))⟩]) (.seq (.reg [⟨(some 16), 0, none, .mv (.t 0)⟩,
  ⟨(some 17), 1, none, .call (.c (.fn 31)) [((.t 16), .view 8), ((.c (.int .i64 60)), .plain)]⟩,
  ⟨(some 18), 11, none, .call (.c (.fn 32)) [((.t 17), .view 8)]⟩,
  ⟨(some 15), 0, none, .mv (.t 18)⟩,
  ⟨(some 19), 0, none, .ext (.t 15) 0⟩,
  ⟨(some 20), 0, none, .ext (.t 15) 1⟩,
  ⟨(some 21), 0, none, .ext (.t 15) 2⟩,
  ⟨(some 5), 0, none, .mv (.t 19)⟩,
  ⟨(some 6), 0, none, .mv (.t 20)⟩,
  ⟨(some 7), 0, none, .mv (.t 21)⟩]) (.seq (.seq (.reg [⟨(some 22), 0, none, .mv (.t 7)⟩,
  ⟨(some 23), 0, none, .bin .neq (.t 22) (.c (.int .i64 0))⟩]) (.cond (.t 23) (.seq (.reg [⟨(some 24), 21, none, .call (.c (.fn 34)) []⟩,
  ⟨(some 4), 0, none, .mv (.t 24)⟩]) .ret) .skip)) (.seq (.seq (.reg [⟨(some 25), 0, none, .mv (.t 5)⟩,
  ⟨(some 26), 0, none, .len false (.t 25)⟩,
  ⟨(some 27), 0, none, .bin .eql (.t 26) (.c (.int .i64 0))⟩]) (.cond (.t 27) (.seq (.reg [⟨(some 4), 0, none, .mv (.c (.bool false))⟩]) .ret) .skip)) (.seq (.reg [⟨(some 28), 0, none, .mv (.t 1)⟩,
  ⟨(some 29), 0, none, .bin .and (.t 28) (.c (.int .i64 1099511627775))⟩,
  ⟨(some 30), 0, none, .mv (.t 5)⟩,
  ⟨(some 31), 0, none, .len false (.t 30)⟩,
  ⟨(some 32), 0, none, .bin .rem (.t 29) (.t 31)⟩,
  ⟨(some 8), 0, none, .mv (.t 32)⟩]) (.seq (.seq (.reg [⟨(some 33), 0, none, .mv (.t 8)⟩,
  ⟨(some 34), 0, none, .bin .geq (.t 33) (.c (.int .i64 4))⟩]) (.cond (.t 34) (.seq (.reg [⟨(some 35), 0, none, .mv (.t 5)⟩,
  ⟨(some 36), 0, none, .mv (.t 8)⟩,
  ⟨(some 37), 0, none, .bin .sub (.t 36) (.c (.int .i64 4))⟩,
  ⟨(some 38), 0, none, .slc (.t 35) none (some (.t 37)) none 1⟩,
  ⟨(some 39), 31, none, .bsl 1 [(.t 38)]⟩,
  ⟨(some 40), 32, none, .call (.c (.fn 39)) [((.t 39), .view 1)]⟩,
  ⟨(some 9), 0, none, .mv (.t 40)⟩]) (.seq (.reg [⟨(some 10), 0, none, .mv (.c (.bool true))⟩]) (.seq (.seq (.reg [⟨(some 11), 0, none, .mv (.c (.int .i64 0))⟩]) (.block 0 (.loop n13_0 l13_0))) (.seq (.reg [⟨(some 63), 0, none, .mv (.t 10)⟩]) (.cond (.t 63) (.seq (.reg [⟨(some 64), 42, none, .call (.c (.fn 34)) []⟩,
  ⟨(some 4), 0, none, .mv (.t 64)⟩]) .ret) .skip))))) .skip)) (.seq (.reg [⟨(some 66), 0, none, .mv (.t 5)⟩,
  ⟨(some 67), 0, none, .mv (.t 8)⟩,
  ⟨(some 68), 0, none, .slc (.t 66) none (some (.t 67)) none 1⟩,
  ⟨(some 69), 52, none, .call (.c (.fn 37)) [((.t 68), .view 1)]⟩,
  ⟨(some 65), 0, none, .mv (.t 69)⟩,
  ⟨(some 70), 0, none, .ext (.t 65) 0⟩,
  ⟨(some 71), 0, none, .ext (.t 65) 1⟩,
  ⟨(some 72), 0, none, .ext (.t 65) 2⟩,
  ⟨(some 12), 0, none, .mv (.t 70)⟩,
  ⟨(some 13), 0, none, .mv (.t 71)⟩,
  ⟨(some 14), 0, none, .mv (.t 72)⟩]) (.seq (.reg [⟨(some 73), 62, none, .call (.c (.fn 34)) []⟩,
  ⟨(some 74), 0, none, .mv (.t 73)⟩,
  ⟨(some 75), 0, (some (74, true)), .mv (.t 14)⟩,
  ⟨(some 76), 0, (some (74, true)), .bin .neq (.t 75) (.c (.int .i64 0))⟩,
  ⟨(some 77), 0, none, .pick (.t 74) (.t 76) (.c (.bool false))⟩,
  ⟨(some 78), 0, none, .mv (.t 77)⟩,
  ⟨(some 79), 0, (some (78, true)), .mv (.t 12)⟩,
  ⟨(some 80), 0, (some (78, true)), .len false (.t 79)⟩,
  ⟨(some 81), 0, (some (78, true)), .bin .eql (.t 80) (.c (.int .i64 0))⟩,
  ⟨(some 82), 0, none, .pick (.t 78) (.t 81) (.c (.bool false))⟩,
  ⟨(some 4), 0, none, .mv (.t 82)⟩]) .ret))))))))
def rs13 : List (Nat × Option Nat × Mode) := [(4, none, .plain)]
theorem chk13 : chkC Try.prog Try.f13.ntmps b13 (Try.f13.body.getD .skip) = true := by decide +kernel
theorem top13 {args : List Arg} {out : Out} (ha : args.length.ble Try.f13.ntmps = true) (h8 : args.length.ble 8 = true) (mss : List (List (Option Nat))) (hb : backOK args out.back)
    (hw : rnC Try.prog b13 (topQ rs13 args mss out) (slotsOf (argsAV argBase args 0) 0) (argsOb argBase args 0)) : CW Try.prog 13 args out :=
  CW.of Try.func13 rs13 mss (by decide +kernel) (by decide +kernel) (by decide +kernel) ha h8 chk13 hb hw
theorem w13 (l : List Rec) (cut : Int) (hl : ∀ r ∈ l, r.ok) (hwt : ∀ r ∈ l, r.wok) (hto : ∀ r ∈ l, r.to.length ≤ 35184372088832) (hn : l.length < 9223372036854775808) (Q : Ex → Slots → LH → Prop) (hQ : ∀ σ H, Slots.get σ 4 = .c (.bool true) → Q .ret σ H) : rnC Try.prog b13 Q [(0, .c (.sl 8 (recs l))), (1, .c (.int .i64 cut))] [] := by
  unfold b13
  have hl' : ∀ r ∈ l.take 60, r.ok := fun r h => hl r (List.mem_of_mem_take h)
  have hw' : ∀ r ∈ l.take 60, r.wok := fun r h => hwt r (List.mem_of_mem_take h)
  have ht' : ∀ r ∈ l.take 60, r.to.length ≤ 35184372088832 := fun r h => hto r (List.mem_of_mem_take h)
  have hn' : (l.take 60).length ≤ 60 := by rw [List.length_take]; omega
  simp only [go_sem, ↓reduceIte, Nat.reduceEqDiff, Nat.reduceMul, Nat.reduceAdd, Nat.reduceDiv, Nat.reduceSub, Nat.reduceLT, Nat.reduceLeDiff, Int.reduceLE, Int.reduceLT, Int.reduceToNat, Int.reduceEq]
  refine callK_1 _ (fun _ => cw31 l 60 (by decide) hn hto) (by simp only [go_sem, ↓reduceIte, Nat.reduceEqDiff, Nat.reduceMul, Nat.reduceAdd, Nat.reduceDiv, Nat.reduceSub, Nat.reduceLT, Nat.reduceLeDiff, Int.reduceLE, Int.reduceLT, Int.reduceToNat, Int.reduceEq]) rfl rfl ?_
  simp only [go_sem, ↓reduceIte, Nat.reduceEqDiff, Nat.reduceMul, Nat.reduceAdd, Nat.reduceDiv, Nat.reduceSub, Nat.reduceLT, Nat.reduceLeDiff, Int.reduceLE, Int.reduceLT, Int.reduceToNat, Int.reduceEq]
  repeat (refine ⟨by (first | omega | (intro h1 h2; exact ⟨h1, h2⟩) | (intro h1; omega) | (intro h1; exact h1) | trivial), ?_⟩)
  generalize l.take 60 = m at *
  refine callK_3 _ _ _ (fun _ => (cw32 m hl' hw' ht').pubRes3 rfl) (by simp only [go_sem, ↓reduceIte, Nat.reduceEqDiff, Nat.reduceMul, Nat.reduceAdd, Nat.reduceDiv, Nat.reduceSub, Nat.reduceLT, Nat.reduceLeDiff, Int.reduceLE, Int.reduceLT, Int.reduceToNat, Int.reduceEq]) rfl rfl ?_
  simp only [go_sem, ↓reduceIte, Nat.reduceEqDiff, Nat.reduceMul, Nat.reduceAdd, Nat.reduceDiv, Nat.reduceSub, Nat.reduceLT, Nat.reduceLeDiff, Int.reduceLE, Int.reduceLT, Int.reduceToNat, Int.reduceEq]
  repeat (refine ⟨by (first | omega | (intro h1 h2; exact ⟨h1, h2⟩) | (intro h1; omega) | (intro h1; exact h1) | trivial), ?_⟩)
  have hlen := packF_len m
  refine ⟨fun he => ?_, fun he => ?_⟩
  · refine callK_1 _ (fun _ => cw34) (by simp only [go_sem, ↓reduceIte, Nat.reduceEqDiff, Nat.reduceMul, Nat.reduceAdd, Nat.reduceDiv, Nat.reduceSub, Nat.reduceLT, Nat.reduceLeDiff, Int.reduceLE, Int.reduceLT, Int.reduceToNat, Int.reduceEq]) rfl rfl ?_
    simp only [go_sem, ↓reduceIte, Nat.reduceEqDiff, Nat.reduceMul, Nat.reduceAdd, Nat.reduceDiv, Nat.reduceSub, Nat.reduceLT, Nat.reduceLeDiff, Int.reduceLE, Int.reduceLT, Int.reduceToNat, Int.reduceEq]
    repeat (refine ⟨by (first | omega | (intro h1 h2; exact ⟨h1, h2⟩) | (intro h1; omega) | (intro h1; exact h1) | trivial), ?_⟩)
    exact hQ _ _ rfl
  have he : (packF m).2.2 = 0 := by simpa using he
  obtain ⟨-, hpk⟩ := packF_ok hl' hw' he
  rw [hpk] at hlen ⊢
  have hten : 10 ≤ (packB m).length := (head_parts (by rw [pack_head hlen])).1.1
  generalize packB m = b at *
  simp only at hlen
  refine ⟨fun h => by simp only at h; omega, fun _ => ?_⟩
  obtain ⟨v0, v1⟩ := and_pos cut
  generalize bitI .and .i64 cut 1099511627775 = v at *
  have n0 : 0 ≤ v.tmod (b.length : Int) := Int.tmod_nonneg _ v0
  have n1 : v.tmod (b.length : Int) < b.length := Int.tmod_lt_of_pos _ (by omega)
  simp only
  generalize v.tmod (b.length : Int) = t at *
  obtain ⟨n, rfl⟩ := Int.eq_ofNat_of_zero_le n0
  have hshort := @short_bad b n (by omega) hlen
  have e3 : List.take n (bys b) = bys (b.take n) := by rw [← List.drop_zero (l := bys b), bys_cut]; rfl
  refine ⟨by omega, fun h4 => ?_, fun h4 => ?_⟩
  · have e1 : IntKind.i64.wrap ((n : Int) - 4) = ((n - 4 : Nat) : Int) := by rw [wrap_i64]; omega
    have e2 : List.take (n - 4 - 0) (bys b) = bys (b.take (n - 4)) := by rw [Nat.sub_zero, ← List.drop_zero (l := bys b), bys_cut]; rfl
    rw [e1, Int.toNat_natCast, e2]
    have c39 : CW Try.prog 39 [.cv (.sl 1 [.sl 1 (bys (b.take (n - 4)))])] ⟨[.cv (.int .u32 (sumW [b.take (n - 4)].flatten : Int))], []⟩ := cw39 [b.take (n - 4)] (by simp) (by simp; omega)
    rw [show [b.take (n - 4)].flatten = b.take (n - 4) by simp] at c39
    refine ⟨⟨by omega, by omega, by omega, by omega⟩, ⟨rfl, by simp [CV.cells, CV.one]⟩, ?_⟩
    refine callK_V _ (fun _ => c39) (by simp only [go_sem, ↓reduceIte, Nat.reduceEqDiff, Nat.reduceMul, Nat.reduceAdd, Nat.reduceDiv, Nat.reduceSub, Nat.reduceLT, Nat.reduceLeDiff, Int.reduceLE, Int.reduceLT, Int.reduceToNat, Int.reduceEq]) rfl (by simp only [go_sem, ↓reduceIte, Nat.reduceEqDiff, Nat.reduceMul, Nat.reduceAdd, Nat.reduceDiv, Nat.reduceSub, Nat.reduceLT, Nat.reduceLeDiff, Int.reduceLE, Int.reduceLT, Int.reduceToNat, Int.reduceEq]) rfl rfl ?_
    simp only [go_sem, ↓reduceIte, Nat.reduceEqDiff, Nat.reduceMul, Nat.reduceAdd, Nat.reduceDiv, Nat.reduceSub, Nat.reduceLT, Nat.reduceLeDiff, Int.reduceLE, Int.reduceLT, Int.reduceToNat, Int.reduceEq]
    repeat (refine ⟨by (first | omega | (intro h1 h2; exact ⟨h1, h2⟩) | (intro h1; omega) | (intro h1; exact h1) | trivial), ?_⟩)
    have hsl := sumW_lt (b.take (n - 4))
    generalize sumW (b.take (n - 4)) = s at *
    refine loopR.by (α := Nat) (fun i => [(5, .c (.sl 1 (bys b))), (8, .c (.int .i64 n)), (9, .c (.int .u32 (s : Int))), (10, .c (.bool (sameU b (n - 4) s i))), (11, .c (.int .i64 i))]) (fun i => []) (fun i => 4 - i) (fun i => i ≤ 4) 0 (Nat.zero_le _) ?_ ?_
    · intro Y hY
      simp only [go_sem, ↓reduceIte, Nat.reduceEqDiff, Nat.reduceMul, Nat.reduceAdd, Nat.reduceDiv, Nat.reduceSub, Nat.reduceLT, Nat.reduceLeDiff, Int.reduceLE, Int.reduceLT, Int.reduceToNat, Int.reduceEq, n13_0]
      exact hY
    intro i hi Y hY
    unfold l13_0
    have hw1 : IntKind.i64.wrap (IntKind.i64.wrap ((n : Int) - 4) + (i : Int)) = ((n - 4 + i : Nat) : Int) := by rw [e1, wrap_i64]; omega
    rcases Nat.lt_or_ge i 4 with hi4 | hi4
    · have hw8 : IntKind.u64.wrap (IntKind.i64.wrap (8 * (i : Int))) = ((8 * i : Nat) : Int) := by
        rw [show IntKind.i64.wrap (8 * (i : Int)) = ((8 * i : Nat) : Int) by rw [wrap_i64]; omega, wrap_u64]; omega
      have eb := bys_getD (b := b) (k := n - 4 + i) (by omega)
      have hv := sum_byte hsl hi4
      simp only [go_sem, ↓reduceIte, Nat.reduceEqDiff, Nat.reduceMul, Nat.reduceAdd, Nat.reduceDiv, Nat.reduceSub, Nat.reduceLT, Nat.reduceLeDiff, Int.reduceLE, Int.reduceLT, Int.reduceToNat, Int.reduceEq, n13_0, hw1, hw8, eb, hv]
      have eu : (((b.getD (n - 4 + i) 0).toNat : Int) == (((sum4 s).getD i 0).toNat : Int)) = decide (b.getD (n - 4 + i) 0 = (sum4 s).getD i 0) := by
        rw [Bool.eq_iff_iff, beq_iff_eq, decide_eq_true_iff]
        exact ⟨fun h => UInt8.toNat_inj.1 (by omega), fun h => by rw [h]⟩
      rw [eu, ← sameU_succ, succ64 hi4 (by omega)]
      exact ⟨fun _ => ⟨fun _ => by omega, fun _ => by omega, hY (i + 1) (by omega) (by omega)⟩, fun h => by omega⟩
    · have : i = 4 := by omega
      subst this
      simp only [go_sem, ↓reduceIte, Nat.reduceEqDiff, Nat.reduceMul, Nat.reduceAdd, Nat.reduceDiv, Nat.reduceSub, Nat.reduceLT, Nat.reduceLeDiff, Int.reduceLE, Int.reduceLT, Int.reduceToNat, Int.reduceEq, n13_0]
      refine ⟨fun h => by omega, fun _ => ⟨fun hs => ?_, fun hs => ?_⟩⟩
      · refine callK_1 _ (fun _ => cw34) (by simp only [go_sem, ↓reduceIte, Nat.reduceEqDiff, Nat.reduceMul, Nat.reduceAdd, Nat.reduceDiv, Nat.reduceSub, Nat.reduceLT, Nat.reduceLeDiff, Int.reduceLE, Int.reduceLT, Int.reduceToNat, Int.reduceEq]) rfl rfl ?_
        simp only [go_sem, ↓reduceIte, Nat.reduceEqDiff, Nat.reduceMul, Nat.reduceAdd, Nat.reduceDiv, Nat.reduceSub, Nat.reduceLT, Nat.reduceLeDiff, Int.reduceLE, Int.reduceLT, Int.reduceToNat, Int.reduceEq]
        repeat (refine ⟨by (first | omega | (intro h1 h2; exact ⟨h1, h2⟩) | (intro h1; omega) | (intro h1; exact h1) | trivial), ?_⟩)
        exact hQ _ _ rfl
      rw [Nat.sub_zero, e3]
      obtain ⟨x, hx, hx2⟩ := hshort (.inr (by simpa using hs))
      refine ⟨by omega, ?_⟩
      refine callK_3 _ _ _ (fun _ => (cw37 (b.take n) (by rw [List.length_take]; omega)).pubRes3 rfl) (by simp only [go_sem, ↓reduceIte, Nat.reduceEqDiff, Nat.reduceMul, Nat.reduceAdd, Nat.reduceDiv, Nat.reduceSub, Nat.reduceLT, Nat.reduceLeDiff, Int.reduceLE, Int.reduceLT, Int.reduceToNat, Int.reduceEq]) rfl rfl ?_
      simp only [go_sem, ↓reduceIte, Nat.reduceEqDiff, Nat.reduceMul, Nat.reduceAdd, Nat.reduceDiv, Nat.reduceSub, Nat.reduceLT, Nat.reduceLeDiff, Int.reduceLE, Int.reduceLT, Int.reduceToNat, Int.reduceEq]
      repeat (refine ⟨by (first | omega | (intro h1 h2; exact ⟨h1, h2⟩) | (intro h1; omega) | (intro h1; exact h1) | trivial), ?_⟩)
      rw [hx]
      refine callK_1 _ (fun _ => cw34) (by simp only [go_sem, ↓reduceIte, Nat.reduceEqDiff, Nat.reduceMul, Nat.reduceAdd, Nat.reduceDiv, Nat.reduceSub, Nat.reduceLT, Nat.reduceLeDiff, Int.reduceLE, Int.reduceLT, Int.reduceToNat, Int.reduceEq]) rfl rfl ?_
      simp only [go_sem, ↓reduceIte, Nat.reduceEqDiff, Nat.reduceMul, Nat.reduceAdd, Nat.reduceDiv, Nat.reduceSub, Nat.reduceLT, Nat.reduceLeDiff, Int.reduceLE, Int.reduceLT, Int.reduceToNat, Int.reduceEq]
      repeat (refine ⟨by (first | omega | (intro h1 h2; exact ⟨h1, h2⟩) | (intro h1; omega) | (intro h1; exact h1) | trivial), ?_⟩)
      refine hQ _ _ ?_
      simp [Slots.get, hx2]
  · rw [Int.toNat_natCast, Nat.sub_zero, e3]
    obtain ⟨x, hx, hx2⟩ := hshort (.inl (by omega))
    refine ⟨by omega, ?_⟩
    refine callK_3 _ _ _ (fun _ => (cw37 (b.take n) (by rw [List.length_take]; omega)).pubRes3 rfl) (by simp only [go_sem, ↓reduceIte, Nat.reduceEqDiff, Nat.reduceMul, Nat.reduceAdd, Nat.reduceDiv, Nat.reduceSub, Nat.reduceLT, Nat.reduceLeDiff, Int.reduceLE, Int.reduceLT, Int.reduceToNat, Int.reduceEq]) rfl rfl ?_
    simp only [go_sem, ↓reduceIte, Nat.reduceEqDiff, Nat.reduceMul, Nat.reduceAdd, Nat.reduceDiv, Nat.reduceSub, Nat.reduceLT, Nat.reduceLeDiff, Int.reduceLE, Int.reduceLT, Int.reduceToNat, Int.reduceEq]
    repeat (refine ⟨by (first | omega | (intro h1 h2; exact ⟨h1, h2⟩) | (intro h1; omega) | (intro h1; exact h1) | trivial), ?_⟩)
    rw [hx]
    refine callK_1 _ (fun _ => cw34) (by simp only [go_sem, ↓reduceIte, Nat.reduceEqDiff, Nat.reduceMul, Nat.reduceAdd, Nat.reduceDiv, Nat.reduceSub, Nat.reduceLT, Nat.reduceLeDiff, Int.reduceLE, Int.reduceLT, Int.reduceToNat, Int.reduceEq]) rfl rfl ?_
    simp only [go_sem, ↓reduceIte, Nat.reduceEqDiff, Nat.reduceMul, Nat.reduceAdd, Nat.reduceDiv, Nat.reduceSub, Nat.reduceLT, Nat.reduceLeDiff, Int.reduceLE, Int.reduceLT, Int.reduceToNat, Int.reduceEq]
    repeat (refine ⟨by (first | omega | (intro h1 h2; exact ⟨h1, h2⟩) | (intro h1; omega) | (intro h1; exact h1) | trivial), ?_⟩)
    refine hQ _ _ ?_
    simp [Slots.get, hx2]
theorem cw13 (l : List Rec) (cut : Int) (hl : ∀ r ∈ l, r.ok) (hwt : ∀ r ∈ l, r.wok) (hto : ∀ r ∈ l, r.to.length ≤ 35184372088832) (hn : l.length < 9223372036854775808) : CW Try.prog 13 [.cv (.sl 8 (recs l)), .cv (.int .i64 cut)] ⟨[.cv (.bool true)], []⟩ :=
  top13 rfl rfl [] trivial (w13 l cut hl hwt hto hn _ fun σ H h => ret1 rfl h)
end Go.Proofs.Ytcpdnpaedkcebaa.V
namespace Go.Proofs.Ytcpdnpaedkcebaa.V
open Go Go.RowKit
set_option linter.unusedVariables false
set_option linter.unusedSimpArgs false
set_option maxRecDepth 100000
section
variable {C : Ctx} {ι ι' : Nat → Loc} {S S' : Nat → Prop} {σ σ' : Slots} {H H' : LH} {a a' : Act} {w w' : World}
end
def e0 : IC := (.reg [⟨(some 0), 0, none, .mv (.c .nilsl)⟩])
def e1 : IC := .ret
def z1 (f : Func) : Array Oper := opsOf (seqA (seqB (codeOf f)))
end Go.Proofs.Ytcpdnpaedkcebaa.V
namespace Go.Proofs.Ytcpdnpaedkcebaa.V
open Go Go.RowKit
set_option linter.unusedVariables false
set_option linter.unusedSimpArgs false
set_option maxRecDepth 100000
def All (w : World) (b : Nat) : Prop := b < w.heap.size
def DownV (P : Program) (t : TypeId) (n : Nat) {α : Type} (f : α → CV) (Q : α → Prop) : Prop :=
  (∀ a, (f a).wf n) ∧ ∀ {H : Type} {enc : TypeId × Value → H} {w : World} {base : Nat} {spare : Nat → Bool} {held : Bool} {fuel : Nat} {cs : List Value} {x : DataW H × List MemPlace},
    DataW.trod enc P w base spare held fuel t cs = some x → ∃ a, cs.length = n ∧ (∀ j, j < n → VR w (All w) ((f a).cells.getD j .undef) (cs.getD j Go.undef)) ∧ ((∀ n ∈ x.1.weights P t, n ≤ reachBytes) → Q a)
theorem dv_int {P : Program} {t : TypeId} {k : IntKind} (ht : P.underlying t = some (.int k)) : DownV P t 1 (fun a : Int => CV.int k a) (fun a => (Lit.int k a).wf = true) := by
  refine ⟨fun a => ⟨rfl, by simp [CV.cells, CV.one]⟩, ?_⟩
  intro H enc w base spare held fuel cs x h
  obtain ⟨n, rfl, rfl, hw⟩ := DataW.trod_int ht h
  refine ⟨n, rfl, fun j hj => ?_, fun _ => hw⟩
  have : j = 0 := by omega
  subst this
  exact .int _ _
theorem dv_str {P : Program} {t : TypeId} (ht : P.underlying t = some .string) : DownV P t 1 (fun a : ByteArray => CV.str a) (fun _ => True) := by
  refine ⟨fun a => ⟨rfl, by simp [CV.cells, CV.one]⟩, ?_⟩
  intro H enc w base spare held fuel cs x h
  obtain ⟨s, rfl, rfl, hs⟩ := DataW.trod_string ht h
  refine ⟨s, rfl, fun j hj => ?_, fun _ => trivial⟩
  have : j = 0 := by omega
  subst this
  exact .str _
theorem dv_flt {P : Program} {t : TypeId} (ht : P.underlying t = some (.float .f64)) : DownV P t 1 (fun a : Nat => CV.flt a) (fun a => (Lit.float .f64 a).wf = true) := by
  refine ⟨fun a => ⟨rfl, by simp [CV.cells, CV.one]⟩, ?_⟩
  intro H enc w base spare held fuel cs x h
  cases fuel with
  | zero => simp [DataW.trod] at h
  | succ n =>
    unfold DataW.trod at h
    rw [ht] at h
    split at h <;> simp_all
    obtain ⟨⟨rfl, hw⟩, rfl⟩ := h
    subst_vars
    exact ⟨_, .flt _, fun _ => hw⟩
theorem wts_all {H : Type} {P : Program} {e : TypeId} : ∀ {l : List (DataW H)} {d : DataW H}, d ∈ l → ∀ n ∈ d.weights P e, n ∈ DataW.weightsAll P e l
  | d0 :: r, d, hd, n, hn => by
    simp only [DataW.weightsAll, List.mem_append]
    rcases List.mem_cons.1 hd with rfl | hd
    · exact .inl hn
    · exact .inr (wts_all hd n hn)
theorem dv_slice {P : Program} {α : Type} [Inhabited α] {f : α → CV} {Q : α → Prop} {t e n B : Nat} (ht : P.underlying t = some (.slice e)) (hC : P.cellsOf e = n) (hn : 0 < n) (hB : P.bytesOf e = B) (hd : DownV P e n f Q) :
    DownV P t 1 (fun l : List α => CV.sl n (l.map f)) (fun l => l.length * B ≤ reachBytes ∧ ∀ x ∈ l, Q x) := by
  refine ⟨fun a => ⟨rfl, by simp [CV.cells, CV.one]⟩, ?_⟩
  intro H enc w base spare held fuel cs x h
  rcases Go.Deep.open_slice ht h with ⟨rfl, rfl⟩ | ⟨a, len, cap, m, k, D, Pl, rfl, hb, hl, hm, hmm, rfl, hi⟩
  · refine ⟨[], rfl, fun j hj => ?_, fun _ => ⟨by simp, by simp⟩⟩
    have : j = 0 := by omega
    subst this
    exact .slnil _ _ _
  · have hlm : len ≤ m := by
      rw [hmm]
      split <;> omega
    obtain ⟨g, hg⟩ := Go.Deep.choose_lt (n := len) (p := fun i (y : α × List Value) => w.cells? base (a.add (i * P.cellsOf e)) (P.cellsOf e) = some y.2 ∧ (∀ j, j < n → VR w (All w) ((f y.1).cells.getD j .undef) (y.2.getD j Go.undef)) ∧ ((∀ n ∈ (D i).weights P e, n ≤ reachBytes) → Q y.1)) (fun i hi' => by
      obtain ⟨cs', hc, ht'⟩ := hi i (by omega)
      obtain ⟨y, hy, hv, hq⟩ := hd.2 ht'
      exact ⟨(y, cs'), hc, hv, hq⟩)
    refine ⟨(List.range len).map fun i => (g i).1, rfl, fun j hj => ?_, fun hw => ⟨?_, ?_⟩⟩
    · have : j = 0 := by omega
      subst this
      show VR w (All w) (.sl n (((List.range len).map fun i => (g i).1).map f)) (.slice (some a) len cap)
      by_cases h0 : len = 0
      · subst h0; exact .slnil _ _ _
      have hcell : ∀ i, i < len → ∀ j, j < n → w.cell? ⟨a.block, a.off + (i * n + j), none⟩ = some ((g i).2.getD j Go.undef) := by
        intro i hi' j hj
        obtain ⟨hc, _, _⟩ := hg i hi'
        rw [hC] at hc
        obtain ⟨_, hcl, hat⟩ := World.cells?_some hc
        have h1 := hat j hj
        rw [Go.Deep.add_add] at h1
        have h2 : (g i).2[j]? = some ((g i).2.getD j Go.undef) := by
          rw [List.getD_eq_getElem?_getD, List.getElem?_eq_getElem (by omega)]; rfl
        rw [h2] at h1
        unfold Addr.add at h1
        split at h1
        · rename_i e0
          rw [e0, Nat.add_zero]
          have hsp : a.spot = none := by
            cases hs : a.spot with
            | none => rfl
            | some s =>
              rw [World.cell?, hs] at h1
              split at h1 <;> simp at h1
          have : a = ⟨a.block, a.off, none⟩ := by cases a; simp_all
          rw [this] at h1
          exact h1
        · exact h1
      have hsp : a = ⟨a.block, a.off, none⟩ := by
        obtain ⟨hc, _, _⟩ := hg 0 (by omega)
        rw [hC] at hc
        obtain ⟨_, hcl, hat⟩ := World.cells?_some hc
        have h1 := hat 0 hn
        rw [Go.Deep.add_add, Nat.zero_mul, Nat.zero_add] at h1
        have h2 : (g 0).2[0]? = some ((g 0).2.getD 0 Go.undef) := by
          rw [List.getD_eq_getElem?_getD, List.getElem?_eq_getElem (by omega)]; rfl
        rw [h2] at h1
        unfold Addr.add at h1
        rw [if_pos rfl] at h1
        have hsp : a.spot = none := by
          cases hs : a.spot with
          | none => rfl
          | some s =>
            rw [World.cell?, hs] at h1
            split at h1 <;> simp at h1
        cases a; simp_all
      rw [hsp]
      have hl2 : (((List.range len).map fun i => (g i).1).map f).length = len := by simp
      have := VR.sl (w := w) (S := All w) n (((List.range len).map fun i => (g i).1).map f) a.block a.off cap (fun i j => (g i).2.getD j Go.undef) (by rw [hl2]; exact hl) (fun x hx => by
        obtain ⟨y, _, rfl⟩ := List.mem_map.1 hx
        exact hd.1 y) (fun i j hi' hj => by
          rw [hl2] at hi'
          exact ⟨cell_lt (hcell i hi' j hj), hcell i hi' j hj⟩) (fun i j hi' hj => by
          rw [hl2] at hi'
          have e1 : (((List.range len).map fun i => (g i).1).map f).getD i .undef = f (g i).1 := by
            simp [List.getD_eq_getElem?_getD, hi']
          rw [e1]
          exact (hg i hi').2.1 j hj)
      rw [hl2] at this
      exact this
    · have h1 := hw ((((List.range len).map D).length + ((List.range (m - len)).map fun j => D (len + j)).length) * P.bytesOf e) (by simp [DataW.weights, ht])
      simp only [List.length_map, List.length_range] at h1 ⊢
      rw [hB] at h1
      exact Nat.le_trans (Nat.mul_le_mul_right _ (Nat.le_add_right _ _)) h1
    · intro y hy
      obtain ⟨i, hir, rfl⟩ := List.mem_map.1 hy
      have hil : i < len := List.mem_range.1 hir
      obtain ⟨_, _, hq⟩ := hg i hil
      refine hq (fun n hn => hw n ?_)
      have h1 := wts_all (P := P) (e := e) (l := (List.range len).map D) (List.mem_map.2 ⟨i, hir, rfl⟩) n hn
      simp only [DataW.weights, ht, List.mem_cons, List.mem_append]
      exact .inr (.inl h1)
def Rec.wf (r : Rec) : Prop := r.ok ∧ r.to.length ≤ 35184372088832 ∧ r.weight < 18446744073709551616
instance : Inhabited Rec := ⟨⟨0, 0, 0, 0, [], ⟨#[]⟩, ⟨#[]⟩, 0⟩⟩
theorem i64_of {n : Int} (h : (Lit.int .i64 n).wf = true) : i64ok n := by
  simp [Lit.wf, IntKind.min, IntKind.max, IntKind.bits, IntKind.signed] at h
  unfold i64ok
  omega
theorem i32_of {n : Int} (h : (Lit.int .i32 n).wf = true) : i32ok n := by
  simp [Lit.wf, IntKind.min, IntKind.max, IntKind.bits, IntKind.signed] at h
  unfold i32ok
  omega
theorem dv_rec : DownV Try.prog 47 8 Rec.cv Rec.wf := by
  refine ⟨fun a => ⟨rfl, by simp [Rec.cv, CV.cells, CV.one]⟩, ?_⟩
  intro H enc w base spare held fuel cs x h
  obtain ⟨ys, n, -, hx, hlen, hyl, hf⟩ := DataW.trod_struct Try.underlying47 h
  subst hx
  have hcl : cs.length = 8 := hlen.trans (by kernel_rfl)
  obtain ⟨c0, c1, c2, c3, c4, c5, c6, c7, rfl⟩ : ∃ c0 c1 c2 c3 c4 c5 c6 c7, cs = [c0, c1, c2, c3, c4, c5, c6, c7] := by
    match cs, hcl with
    | [c0, c1, c2, c3, c4, c5, c6, c7], _ => exact ⟨_, _, _, _, _, _, _, _, rfl⟩
  have hyl2 : ys.length = 8 := hyl
  obtain ⟨y0, y1, y2, y3, y4, y5, y6, y7, rfl⟩ : ∃ y0 y1 y2 y3 y4 y5 y6 y7, ys = [y0, y1, y2, y3, y4, y5, y6, y7] := by
    match ys, hyl2 with
    | [y0, y1, y2, y3, y4, y5, y6, y7], _ => exact ⟨_, _, _, _, _, _, _, _, rfl⟩
  have g0 : DataW.trod enc Try.prog w base spare held n 3 [c0] = some y0 := by
    have e1 : Try.prog.cellsOf 3 = 1 := by kernel_rfl
    have e2 : DataW.trod enc Try.prog w base spare held n 3 (([c0, c1, c2, c3, c4, c5, c6, c7].drop 0).take (Try.prog.cellsOf 3)) = some y0 := hf 0 _ rfl
    rw [e1] at e2
    exact e2
  have g1 : DataW.trod enc Try.prog w base spare held n 3 [c1] = some y1 := by
    have e1 : Try.prog.cellsOf 3 = 1 := by kernel_rfl
    have e2 : DataW.trod enc Try.prog w base spare held n 3 (([c0, c1, c2, c3, c4, c5, c6, c7].drop 1).take (Try.prog.cellsOf 3)) = some y1 := hf 1 _ rfl
    rw [e1] at e2
    exact e2
  have g2 : DataW.trod enc Try.prog w base spare held n 3 [c2] = some y2 := by
    have e1 : Try.prog.cellsOf 3 = 1 := by kernel_rfl
    have e2 : DataW.trod enc Try.prog w base spare held n 3 (([c0, c1, c2, c3, c4, c5, c6, c7].drop 2).take (Try.prog.cellsOf 3)) = some y2 := hf 2 _ rfl
    rw [e1] at e2
    exact e2
  have g3 : DataW.trod enc Try.prog w base spare held n 3 [c3] = some y3 := by
    have e1 : Try.prog.cellsOf 3 = 1 := by kernel_rfl
    have e2 : DataW.trod enc Try.prog w base spare held n 3 (([c0, c1, c2, c3, c4, c5, c6, c7].drop 3).take (Try.prog.cellsOf 3)) = some y3 := hf 3 _ rfl
    rw [e1] at e2
    exact e2
  have g4 : DataW.trod enc Try.prog w base spare held n 23 [c4] = some y4 := by
    have e1 : Try.prog.cellsOf 23 = 1 := by kernel_rfl
    have e2 : DataW.trod enc Try.prog w base spare held n 23 (([c0, c1, c2, c3, c4, c5, c6, c7].drop 4).take (Try.prog.cellsOf 23)) = some y4 := hf 4 _ rfl
    rw [e1] at e2
    exact e2
  have g5 : DataW.trod enc Try.prog w base spare held n 9 [c5] = some y5 := by
    have e1 : Try.prog.cellsOf 9 = 1 := by kernel_rfl
    have e2 : DataW.trod enc Try.prog w base spare held n 9 (([c0, c1, c2, c3, c4, c5, c6, c7].drop 5).take (Try.prog.cellsOf 9)) = some y5 := hf 5 _ rfl
    rw [e1] at e2
    exact e2
  have g6 : DataW.trod enc Try.prog w base spare held n 9 [c6] = some y6 := by
    have e1 : Try.prog.cellsOf 9 = 1 := by kernel_rfl
    have e2 : DataW.trod enc Try.prog w base spare held n 9 (([c0, c1, c2, c3, c4, c5, c6, c7].drop 6).take (Try.prog.cellsOf 9)) = some y6 := hf 6 _ rfl
    rw [e1] at e2
    exact e2
  have g7 : DataW.trod enc Try.prog w base spare held n 45 [c7] = some y7 := by
    have e1 : Try.prog.cellsOf 45 = 1 := by kernel_rfl
    have e2 : DataW.trod enc Try.prog w base spare held n 45 (([c0, c1, c2, c3, c4, c5, c6, c7].drop 7).take (Try.prog.cellsOf 45)) = some y7 := hf 7 _ rfl
    rw [e1] at e2
    exact e2
  obtain ⟨b0, -, v0, q0⟩ := (dv_int Try.underlying3).2 g0
  obtain ⟨b1, -, v1, q1⟩ := (dv_int Try.underlying3).2 g1
  obtain ⟨b2, -, v2, q2⟩ := (dv_int Try.underlying3).2 g2
  obtain ⟨b3, -, v3, q3⟩ := (dv_int Try.underlying3).2 g3
  obtain ⟨b4, -, v4, q4⟩ := (dv_slice (B := 4) Try.underlying23 (by kernel_rfl) (by decide) (by kernel_rfl) (dv_int Try.underlying21)).2 g4
  obtain ⟨b5, -, v5, q5⟩ := (dv_str Try.underlying9).2 g5
  obtain ⟨b6, -, v6, q6⟩ := (dv_str Try.underlying9).2 g6
  obtain ⟨b7, -, v7, q7⟩ := (dv_flt Try.underlying45).2 g7
  refine ⟨⟨b0, b1, b2, b3, b4, b5, b6, b7⟩, rfl, fun j hj => ?_, fun hw => ?_⟩
  · match j, hj with
    | 0, _ => exact v0 0 (by decide)
    | 1, _ => exact v1 0 (by decide)
    | 2, _ => exact v2 0 (by decide)
    | 3, _ => exact v3 0 (by decide)
    | 4, _ => exact v4 0 (by decide)
    | 5, _ => exact v5 0 (by decide)
    | 6, _ => exact v6 0 (by decide)
    | 7, _ => exact v7 0 (by decide)
  · simp only [DataW.weights, Try.underlying47, List.map_cons, List.map_nil, DataW.weightsEach, List.mem_append, List.not_mem_nil, or_false] at hw
    have z4 := q4 fun m hm => hw m (.inr (.inr (.inr (.inr (.inl hm)))))
    refine ⟨⟨i64_of (q0 fun m hm => hw m (.inl hm)), i64_of (q1 fun m hm => hw m (.inr (.inl hm))), i64_of (q2 fun m hm => hw m (.inr (.inr (.inl hm)))), i64_of (q3 fun m hm => hw m (.inr (.inr (.inr (.inl hm))))), fun c hc => i32_of (z4.2 c hc)⟩, ?_, ?_⟩
    · have := z4.1
      unfold reachBytes at this
      show b4.length ≤ _
      omega
    · have := q7 fun m hm => hw m (.inr (.inr (.inr (.inr (.inr (.inr (.inr hm)))))))
      simpa [Lit.wf] using this
theorem arg_recs {H : Type} {enc : TypeId × Value → H} {W : World} {base : Nat} {spare : Nat → Bool} {held : Bool} {dd : DataW H} {ps : List MemPlace} {ts : List TypeId} {ds : List (DataW H)} {j : Nat}
    (hsz : (DataW.weightsEach Try.prog ts ds).all (· ≤ reachBytes) = true) (ht : ts[j]? = some 22) (hdd : ds[j]? = some dd) {a : Option Addr} {len cap : Nat} (h : DataW.Trod enc Try.prog W base spare held 22 (.slice a len cap) dd ps) :
    ∃ l : List Rec, VR W (All W) (.sl 8 (recs l)) (.slice a len cap) ∧ l.length < 9223372036854775808 ∧ (∀ r ∈ l, r.ok) ∧ (∀ r ∈ l, r.to.length ≤ 35184372088832) ∧ ∀ r ∈ l, r.weight < 18446744073709551616 := by
  obtain ⟨fuel, hf⟩ := h
  obtain ⟨l, -, hv, hq⟩ := (dv_slice (B := 96) Try.underlying22 (by kernel_rfl) (by decide) (by kernel_rfl) dv_rec).2 hf
  have z := hq fun n hn => by
    have z := List.all_eq_true.1 hsz _ (DataW.weights_mem_each ht hdd n hn)
    simpa using z
  have z1 := z.1
  unfold reachBytes at z1
  refine ⟨l, hv 0 (by decide), by omega, fun r hr => (z.2 r hr).1, fun r hr => (z.2 r hr).2.1, fun r hr => (z.2 r hr).2.2⟩
theorem hr_nil (ι : Nat → Loc) (w : World) : HR ι (All w) [] w := by
  have nope : ∀ id, ¬ Owned ι [] id := fun id ho => by unfold Owned at ho; simp [LH.get] at ho
  exact ⟨fun id cs hg => by simp [LH.get] at hg, fun id e xs hg => by simp [LH.get] at hg, fun id e xs hg => by simp [LH.get] at hg, fun i j hi => absurd hi (nope _), fun i hi => absurd hi (nope _), fun i hi => absurd hi (nope _), fun b hb => hb⟩
theorem calls2 {P : Program} {f : FuncId} {x y : CV} (h : CW P f [.cv x, .cv y] ⟨[.cv (.bool true)], []⟩) {w : World} {u v : Value} (hu : VR w (All w) x u) (hv : VR w (All w) y v) :
    Calls P f #[u, v] w fun e w' => e = .returned (.bool true) ∧ Below w.heap.size w w' := by
  refine (h.2.2 (fun _ => ⟨0, 0, 0, true⟩) (All w) w [u, v] rfl (fun j hj => ?_) (hr_nil _ w)).mono fun e w' hp => ?_
  · match j, hj with
    | 0, _ => exact .c _ _ hu
    | 1, _ => exact .c _ _ hv
  · obtain ⟨r, ι', S', rfl, r1, r2, r3, r4, r5, r6, r7⟩ := hp
    have e1 := avr_bool (v := .c (.bool true)) r1
    exact ⟨by rw [e1], r7.below fun b ⟨id, ho, _⟩ => ho⟩
end Go.Proofs.Ytcpdnpaedkcebaa.V
namespace Go.Proofs.Ytcpdnpaedkcebaa.V
open Go Go.RowKit
set_option linter.unusedVariables false
set_option linter.unusedSimpArgs false
set_option maxRecDepth 100000
theorem arg_int {H : Type} {enc : TypeId × Value → H} {W : World} {base : Nat} {spare : Nat → Bool} {held : Bool} {dd : DataW H} {ps : List MemPlace} {ts : List TypeId} {ds : List (DataW H)} {j : Nat} {n : Int}
    (hsz : (DataW.weightsEach Try.prog ts ds).all (· ≤ reachBytes) = true) (ht : ts[j]? = some 3) (hdd : ds[j]? = some dd) (h : DataW.Trod enc Try.prog W base spare held 3 (.int .i64 n) dd ps) :
    VR W (All W) (.int .i64 n) (.int .i64 n) ∧ i64ok n := by
  obtain ⟨fuel, hf⟩ := h
  obtain ⟨m, hm, hv, hq⟩ := (dv_int Try.underlying3).2 (cs := [.int .i64 n]) hf
  have z := hq fun n hn => by
    have z := List.all_eq_true.1 hsz _ (DataW.weights_mem_each ht hdd n hn)
    simpa using z
  have hv0 : VR W (All W) (.int .i64 m) (.int .i64 n) := hv 0 (by decide)
  cases hv0
  exact ⟨hv 0 (by decide), i64_of z⟩
end Go.Proofs.Ytcpdnpaedkcebaa.V
