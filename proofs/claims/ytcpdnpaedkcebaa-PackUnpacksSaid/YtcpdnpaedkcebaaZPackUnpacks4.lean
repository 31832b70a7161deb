/- Towards the law PackUnpacks (what pack.Unpack tells), part 4: the texts Yd Pcrc Ye Yf Yg Yh Yi Xa Wb Wc, what of them is used. -/
import Derived.Test.YtcpdnpaedkcebaaZPackUnpacks3
namespace Go.Proofs.Ytcpdnpaedkcebaa.V
open Go Go.RowKit
set_option linter.unusedVariables false
set_option linter.unusedSimpArgs false
set_option maxRecDepth 100000
def l99_0 : IC := (.seq (.reg [⟨(some 12), 0, none, .bin .lss (.t 11) (.t 10)⟩]) (.seq (.cond (.t 12) .skip (.exit 0)) (.seq (.block 1 (.seq (.reg [⟨(some 13), 0, none, .mv (.t 11)⟩,
  ⟨(some 5), 0, none, .mv (.t 13)⟩]) (.reg [⟨(some 14), 0, none, .mv (.t 4)⟩,
  ⟨(some 15), 0, none, .mv (.t 5)⟩,
  ⟨(some 16), 0, none, .mv (.t 3)⟩,
  ⟨(some 17), 0, none, .mv (.t 5)⟩,
  ⟨(some 18), 0, none, .bin .mul (.c (.int .i64 8)) (.t 17)⟩,
  ⟨(some 19), 0, none, .bin .shr (.t 16) (.t 18)⟩,
  ⟨(some 20), 0, none, .conv .u8 (.t 19)⟩,
  ⟨(some 21), 0, none, .ia (.t 14) (.t 15) 1⟩,
  ⟨none, 0, none, .st (.t 21) (.t 20) none⟩]))) (.reg [⟨(some 22), 0, none, .bin .add (.t 11) (.c (.int .i64 1))⟩,
  ⟨(some 11), 0, none, .mv (.t 22)⟩]))))
def n99_0 : Norm := ⟨[(3, .plain), (4, .own 1 1000004), (10, .plain), (11, .plain)], []⟩
def b99 : IC := (.seq (.reg [⟨(some 2), 0, none, .mv (.c .nilsl)⟩]) (.seq (.reg [⟨(some 6), 0, none, .mv (.t 0)⟩,
  ⟨(some 7), 1, none, .call (.c (.fn 69)) [((.t 6), .plain)]⟩,
  ⟨(some 3), 0, none, .mv (.t 7)⟩]) (.seq (.reg [⟨(some 8), 11, none, .mks 8 (.int .u8 0)⟩,
  ⟨(some 4), 0, none, .mv (.t 8)⟩]) (.seq (.seq (.reg [⟨(some 9), 0, none, .mv (.t 4)⟩,
  ⟨(some 10), 0, none, .len false (.t 9)⟩,
  ⟨(some 11), 0, none, .mv (.c (.int .i64 0))⟩]) (.block 0 (.loop n99_0 l99_0))) (.seq (.reg [⟨(some 23), 0, none, .mv (.t 4)⟩,
  ⟨(some 2), 0, none, .mv (.t 23)⟩]) .ret)))))
def rs99 : List (Nat × Option Nat × Mode) := [(2, none, .move 1)]
theorem chk99 : chkC Try.prog Try.f99.ntmps b99 (Try.f99.body.getD .skip) = true := by decide +kernel
theorem top99 {args : List Arg} {out : Out} (ha : args.length.ble Try.f99.ntmps = true) (h8 : args.length.ble 8 = true) (mss : List (List (Option Nat))) (hb : backOK args out.back)
    (hw : rnC Try.prog b99 (topQ rs99 args mss out) (slotsOf (argsAV argBase args 0) 0) (argsOb argBase args 0)) : CW Try.prog 99 args out :=
  CW.of Try.func99 rs99 mss (by decide +kernel) (by decide +kernel) (by decide +kernel) ha h8 chk99 hb hw
def l125_0 : IC := (.seq (.reg [⟨(some 30), 0, none, .bin .lss (.t 29) (.t 28)⟩]) (.seq (.cond (.t 30) .skip (.exit 0)) (.seq (.block 1 (.seq (.reg [⟨(some 31), 0, none, .mv (.t 29)⟩,
  ⟨(some 10), 0, none, .mv (.t 31)⟩]) (.reg [⟨(some 32), 0, none, .mv (.t 9)⟩,
  ⟨(some 33), 0, none, .mv (.t 7)⟩,
  ⟨(some 34), 0, none, .mv (.t 10)⟩,
  ⟨(some 35), 0, none, .ia (.t 33) (.t 34) 1⟩,
  ⟨(some 36), 0, none, .ld (.t 35) none⟩,
  ⟨(some 37), 0, none, .conv .u64 (.t 36)⟩,
  ⟨(some 38), 0, none, .mv (.t 10)⟩,
  ⟨(some 39), 0, none, .bin .mul (.c (.int .i64 8)) (.t 38)⟩,
  ⟨(some 40), 0, none, .bin .shl (.t 37) (.t 39)⟩,
  ⟨(some 41), 0, none, .bin .or (.t 32) (.t 40)⟩,
  ⟨(some 9), 0, none, .mv (.t 41)⟩]))) (.reg [⟨(some 42), 0, none, .bin .add (.t 29) (.c (.int .i64 1))⟩,
  ⟨(some 29), 0, none, .mv (.t 42)⟩]))))
def n125_0 : Norm := ⟨[(1, .plain), (7, .plain), (9, .plain), (28, .plain), (29, .plain)], []⟩
def b125 : IC := (.seq (.reg [⟨(some 4), 0, none, .mv (.c (.flt 0))⟩,
  ⟨(some 5), 0, none, .mv (.c (.int .i64 0))⟩,
  ⟨(some 6), 0, none, .mv (.c (.int .i64 0))⟩]) (.seq (.seq (.reg [⟨(some 11), 0, none, .mv (.t 1)⟩,
  ⟨(some 12), 0, none, .bin .lss (.t 11) (.c (.int .i64 0))⟩,
  ⟨(some 13), 0, none, .mv (.t 12)⟩,
  ⟨(some 14), 0, (some (13, false)), .mv (.t 1)⟩,
  ⟨(some 15), 0, (some (13, false)), .mv (.t 0)⟩,
  ⟨(some 16), 0, (some (13, false)), .len false (.t 15)⟩,
  ⟨(some 17), 0, (some (13, false)), .bin .gtr (.t 14) (.t 16)⟩,
  ⟨(some 18), 0, none, .pick (.t 13) (.c (.bool true)) (.t 17)⟩]) (.cond (.t 18) (.seq (.reg [⟨(some 4), 0, none, .mv (.c (.flt 0))⟩,
  ⟨(some 5), 0, none, .mv (.c (.int .i64 0))⟩,
  ⟨(some 6), 0, none, .mv (.c (.int .i64 1))⟩]) .ret) .skip)) (.seq (.reg [⟨(some 20), 0, none, .mv (.t 0)⟩,
  ⟨(some 21), 0, none, .mv (.t 1)⟩,
  ⟨(some 22), 1, none, .call (.c (.fn 133)) [((.t 20), .view 1), ((.t 21), .plain), ((.c (.int .i64 8)), .plain)]⟩,
  ⟨(some 19), 0, none, .mv (.t 22)⟩,
  ⟨(some 23), 0, none, .ext (.t 19) 0⟩,
  ⟨(some 24), 0, none, .ext (.t 19) 1⟩,
  ⟨(some 7), 0, none, .mv (.t 23)⟩,
  ⟨(some 8), 0, none, .mv (.t 24)⟩]) (.seq (.seq (.reg [⟨(some 25), 0, none, .mv (.t 8)⟩,
  ⟨(some 26), 0, none, .not (.t 25)⟩]) (.cond (.t 26) (.seq (.reg [⟨(some 4), 0, none, .mv (.c (.flt 0))⟩,
  ⟨(some 5), 0, none, .mv (.c (.int .i64 0))⟩,
  ⟨(some 6), 0, none, .mv (.c (.int .i64 10))⟩]) .ret) .skip)) (.seq (.reg [⟨(some 9), 0, none, .mv (.c (.int .u64 0))⟩]) (.seq (.seq (.reg [⟨(some 27), 0, none, .mv (.t 7)⟩,
  ⟨(some 28), 0, none, .len false (.t 27)⟩,
  ⟨(some 29), 0, none, .mv (.c (.int .i64 0))⟩]) (.block 0 (.loop n125_0 l125_0))) (.seq (.reg [⟨(some 43), 0, none, .mv (.t 9)⟩,
  ⟨(some 44), 11, none, .call (.c (.fn 134)) [((.t 43), .plain)]⟩,
  ⟨(some 45), 0, none, .mv (.t 1)⟩,
  ⟨(some 46), 0, none, .bin .add (.t 45) (.c (.int .i64 8))⟩,
  ⟨(some 4), 0, none, .mv (.t 44)⟩,
  ⟨(some 5), 0, none, .mv (.t 46)⟩,
  ⟨(some 6), 0, none, .mv (.c (.int .i64 0))⟩]) .ret)))))))
def rs125 : List (Nat × Option Nat × Mode) := [(4, none, .plain), (5, none, .plain), (6, none, .plain)]
theorem chk125 : chkC Try.prog Try.f125.ntmps b125 (Try.f125.body.getD .skip) = true := by decide +kernel
theorem top125 {args : List Arg} {out : Out} (ha : args.length.ble Try.f125.ntmps = true) (h8 : args.length.ble 8 = true) (mss : List (List (Option Nat))) (hb : backOK args out.back)
    (hw : rnC Try.prog b125 (topQ rs125 args mss out) (slotsOf (argsAV argBase args 0) 0) (argsOb argBase args 0)) : CW Try.prog 125 args out :=
  CW.of Try.func125 rs125 mss (by decide +kernel) (by decide +kernel) (by decide +kernel) ha h8 chk125 hb hw
def l136_0 : IC := (.seq (.seq (.reg [⟨(some 22), 0, none, .mv (.t 8)⟩,
  ⟨(some 23), 0, none, .bin .lss (.t 22) (.c (.int .i64 8))⟩]) (.cond (.t 23) .skip (.exit 0))) (.seq (.block 1 (.reg [⟨(some 26), 0, none, .mv (.t 7)⟩,
  ⟨(some 27), 0, none, .mv (.t 0)⟩,
  ⟨(some 28), 0, none, .mv (.t 1)⟩,
  ⟨(some 29), 0, none, .mv (.t 8)⟩,
  ⟨(some 30), 0, none, .bin .add (.t 28) (.t 29)⟩,
  ⟨(some 31), 0, none, .ia (.t 27) (.t 30) 1⟩,
  ⟨(some 32), 0, none, .ld (.t 31) none⟩,
  ⟨(some 33), 0, none, .conv .u64 (.t 32)⟩,
  ⟨(some 34), 0, none, .mv (.t 8)⟩,
  ⟨(some 35), 0, none, .bin .mul (.c (.int .i64 8)) (.t 34)⟩,
  ⟨(some 36), 0, none, .conv .u64 (.t 35)⟩,
  ⟨(some 37), 0, none, .bin .shl (.t 33) (.t 36)⟩,
  ⟨(some 38), 0, none, .bin .or (.t 26) (.t 37)⟩,
  ⟨(some 7), 0, none, .mv (.t 38)⟩])) (.reg [⟨(some 24), 0, none, .mv (.t 8)⟩,
  ⟨(some 25), 0, none, .bin .add (.t 24) (.c (.int .i64 1))⟩,
  ⟨(some 8), 0, none, .mv (.t 25)⟩])))
def n136_0 : Norm := ⟨[(0, .plain), (1, .plain), (7, .plain), (8, .plain)], []⟩
def b136 : IC := (.seq (.reg [⟨(some 4), 0, none, .mv (.c (.int .u64 0))⟩,
  ⟨(some 5), 0, none, .mv (.c (.int .i64 0))⟩,
  ⟨(some 6), 0, none, .mv (.c (.int .i64 0))⟩]) (.seq (.seq (.reg [⟨(some 9), 0, none, .mv (.t 1)⟩,
  ⟨(some 10), 0, none, .bin .lss (.t 9) (.c (.int .i64 0))⟩,
  ⟨(some 11), 0, none, .mv (.t 10)⟩,
  ⟨(some 12), 0, (some (11, false)), .mv (.t 1)⟩,
  ⟨(some 13), 0, (some (11, false)), .mv (.t 0)⟩,
  ⟨(some 14), 0, (some (11, false)), .len false (.t 13)⟩,
  ⟨(some 15), 0, (some (11, false)), .bin .gtr (.t 12) (.t 14)⟩,
  ⟨(some 16), 0, none, .pick (.t 11) (.c (.bool true)) (.t 15)⟩]) (.cond (.t 16) (.seq (.reg [⟨(some 4), 0, none, .mv (.c (.int .u64 0))⟩,
  ⟨(some 5), 0, none, .mv (.c (.int .i64 0))⟩,
  ⟨(some 6), 0, none, .mv (.c (.int .i64 1))⟩]) .ret) .skip)) (.seq (.seq (.reg [⟨(some 17), 0, none, .mv (.t 0)⟩,
  ⟨(some 18), 0, none, .len false (.t 17)⟩,
  ⟨(some 19), 0, none, .mv (.t 1)⟩,
  ⟨(some 20), 0, none, .bin .sub (.t 18) (.t 19)⟩,
  ⟨(some 21), 0, none, .bin .lss (.t 20) (.c (.int .i64 8))⟩]) (.cond (.t 21) (.seq (.reg [⟨(some 4), 0, none, .mv (.c (.int .u64 0))⟩,
  ⟨(some 5), 0, none, .mv (.c (.int .i64 0))⟩,
  ⟨(some 6), 0, none, .mv (.c (.int .i64 10))⟩]) .ret) .skip)) (.seq (.reg [⟨(some 7), 0, none, .mv (.c (.int .u64 0))⟩]) (.seq (.seq (.reg [⟨(some 8), 0, none, .mv (.c (.int .i64 0))⟩]) (.block 0 (.loop n136_0 l136_0))) (.seq (.reg [⟨(some 39), 0, none, .mv (.t 7)⟩,
  ⟨(some 40), 0, none, .mv (.t 1)⟩,
  ⟨(some 41), 0, none, .bin .add (.t 40) (.c (.int .i64 8))⟩,
  ⟨(some 4), 0, none, .mv (.t 39)⟩,
  ⟨(some 5), 0, none, .mv (.t 41)⟩,
  ⟨(some 6), 0, none, .mv (.c (.int .i64 0))⟩]) .ret))))))
def rs136 : List (Nat × Option Nat × Mode) := [(4, none, .plain), (5, none, .plain), (6, none, .plain)]
theorem chk136 : chkC Try.prog Try.f136.ntmps b136 (Try.f136.body.getD .skip) = true := by decide +kernel
theorem top136 {args : List Arg} {out : Out} (ha : args.length.ble Try.f136.ntmps = true) (h8 : args.length.ble 8 = true) (mss : List (List (Option Nat))) (hb : backOK args out.back)
    (hw : rnC Try.prog b136 (topQ rs136 args mss out) (slotsOf (argsAV argBase args 0) 0) (argsOb argBase args 0)) : CW Try.prog 136 args out :=
  CW.of Try.func136 rs136 mss (by decide +kernel) (by decide +kernel) (by decide +kernel) ha h8 chk136 hb hw
def floatI (u i : Nat) : List UInt8 := (List.range 8).map fun j => if j < i then by8 ((u / 256 ^ j : Nat) : Int) else 0
def floatL (u : Nat) : List UInt8 := floatI u 8
theorem floatI_len (u i : Nat) : (floatI u i).length = 8 := by simp [floatI]
theorem floatI_set (u i : Nat) (hi : i < 8) : (bys (floatI u i)).set i (u8 (by8 ((u / 256 ^ i : Nat) : Int))) = bys (floatI u (i + 1)) := by
  apply List.ext_getElem?
  intro j
  rw [List.getElem?_set, bys_len, floatI_len]
  by_cases h : i = j
  · subst h
    rw [if_pos rfl, if_pos hi]
    simp [bys, floatI, hi]
  · rw [if_neg h]
    simp only [bys, floatI, List.getElem?_map]
    rcases Nat.lt_or_ge j 8 with hj | hj
    · rw [List.getElem?_range hj]
      simp only [Option.map_some]
      by_cases h2 : j < i
      · rw [if_pos h2, if_pos (by omega)]
      · rw [if_neg h2, if_neg (by omega)]
    · rw [List.getElem?_eq_none (by simpa using hj)]; rfl
theorem pow8 (i : Nat) : (2 : Int) ^ (8 * i) = ((256 ^ i : Nat) : Int) := by
  rw [show (256 : Nat) = 2 ^ 8 from rfl, ← Nat.pow_mul]; norm_cast
theorem shr8 (u i : Nat) (hi : i < 8) : (u : Int).fdiv (2 ^ min (8 * i) 64) = ((u / 256 ^ i : Nat) : Int) := by
  rw [Nat.min_eq_left (by omega), pow8, fdiv_nat]
theorem or_u64 {n m : Nat} (hn : n < 18446744073709551616) (hm : m < 18446744073709551616) : bitI .or .u64 (n : Int) (m : Int) = ((n ||| m : Nat) : Int) := by
  have e : ∀ k : Nat, BitVec.ofInt 64 (k : Int) = BitVec.ofNat 64 k := fun k => by apply BitVec.eq_of_toNat_eq; simp [BitVec.toNat_ofInt]
  show IntKind.u64.wrap ((BitVec.ofInt 64 (n : Int) ||| BitVec.ofInt 64 (m : Int)).toNat : Int) = _
  rw [e, e, BitVec.toNat_or, BitVec.toNat_ofNat, BitVec.toNat_ofNat, Nat.mod_eq_of_lt (by omega), Nat.mod_eq_of_lt (by omega), wrap_u64]
  have : n ||| m < 2 ^ 64 := Nat.or_lt_two_pow (by omega) (by omega)
  omega
def leV : List UInt8 → Nat
  | [] => 0
  | c :: t => c.toNat + 256 * leV t
theorem leV_app (c : UInt8) : ∀ a : List UInt8, leV (a ++ [c]) = leV a + c.toNat * 256 ^ a.length
  | [] => by simp [leV]
  | d :: a => by
    have := leV_app c a
    simp only [List.cons_append, leV, List.length_cons, this, Nat.pow_succ]
    rw [Nat.mul_add, Nat.mul_left_comm, Nat.mul_comm 256 (256 ^ a.length), Nat.add_assoc]
theorem leV_lt : ∀ a : List UInt8, leV a < 256 ^ a.length
  | [] => by simp [leV]
  | d :: a => by
    have := leV_lt a
    have := d.toNat_lt
    simp only [leV, List.length_cons, Nat.pow_succ]
    omega
theorem w99 (u : Nat) (hu : u < 18446744073709551616) (Q : Ex → Slots → LH → Prop) (hQ : ∀ σ H, OwnAt 1 (bys (floatL u)) (Slots.get σ 2) H → Q .ret σ H) : rnC Try.prog b99 Q [(0, .c (.flt u))] [] := by
  unfold b99
  simp only [go_sem, ↓reduceIte, Nat.reduceEqDiff, Nat.reduceMul, Nat.reduceAdd, Nat.reduceDiv, Nat.reduceSub, Nat.reduceLT, Nat.reduceLeDiff, Int.reduceLE, Int.reduceLT, Int.reduceToNat, Int.reduceEq]
  refine callK_1 _ (fun _ => cw69 u) (by simp only [go_sem, ↓reduceIte, Nat.reduceEqDiff, Nat.reduceMul, Nat.reduceAdd, Nat.reduceDiv, Nat.reduceSub, Nat.reduceLT, Nat.reduceLeDiff, Int.reduceLE, Int.reduceLT, Int.reduceToNat, Int.reduceEq]) rfl rfl ?_
  simp only [go_sem, ↓reduceIte, Nat.reduceEqDiff, Nat.reduceMul, Nat.reduceAdd, Nat.reduceDiv, Nat.reduceSub, Nat.reduceLT, Nat.reduceLeDiff, Int.reduceLE, Int.reduceLT, Int.reduceToNat, Int.reduceEq]
  repeat (refine ⟨by (first | omega | (intro h1 h2; exact ⟨h1, h2⟩) | (intro h1; omega) | (intro h1; exact h1) | trivial), ?_⟩)
  refine loopR.by (α := Nat) (fun i => [(3, .c (.int .u64 u)), (4, .osl 1000004 0 8), (10, .c (.int .i64 8)), (11, .c (.int .i64 i))]) (fun i => [(1000004, .row 1 (bys (floatI u i)))]) (fun i => 8 - i) (fun i => i ≤ 8) 0 (Nat.zero_le _) ?_ ?_
  · intro Y hY
    simp only [go_sem, ↓reduceIte, Nat.reduceEqDiff, Nat.reduceMul, Nat.reduceAdd, Nat.reduceDiv, Nat.reduceSub, Nat.reduceLT, Nat.reduceLeDiff, Int.reduceLE, Int.reduceLT, Int.reduceToNat, Int.reduceEq, n99_0]
    first | exact hY | exact ⟨by simp, hY⟩
  intro i hi Y hY
  unfold l99_0
  rcases Nat.lt_or_ge i 8 with hlt | hge
  · have hw8 : IntKind.i64.wrap (8 * (i : Int)) = ((8 * i : Nat) : Int) := by rw [wrap_i64]; omega
    have eb := bys_at (l := floatI u i) (k := i) (by rw [floatI_len]; exact hlt)
    simp only [go_sem, ↓reduceIte, Nat.reduceEqDiff, Nat.reduceMul, Nat.reduceAdd, Nat.reduceDiv, Nat.reduceSub, Nat.reduceLT, Nat.reduceLeDiff, Int.reduceLE, Int.reduceLT, Int.reduceToNat, Int.reduceEq, n99_0, hw8, eb]
    rw [shr8 u i hlt, by8_cv, floatI_set u i hlt, succ64 hlt (by omega), bys_len, floatI_len]
    exact ⟨fun _ => ⟨by omega, by omega, rfl, hY (i + 1) (by omega) (by omega)⟩, fun h => by omega⟩
  · have : i = 8 := by omega
    subst this
    simp only [go_sem, ↓reduceIte, Nat.reduceEqDiff, Nat.reduceMul, Nat.reduceAdd, Nat.reduceDiv, Nat.reduceSub, Nat.reduceLT, Nat.reduceLeDiff, Int.reduceLE, Int.reduceLT, Int.reduceToNat, Int.reduceEq, n99_0]
    exact ⟨fun h => by omega, fun _ => hQ _ _ (own_at rfl (by rw [bys_len, floatL, floatI_len]) rfl)⟩
theorem cw99 (u : Nat) (hu : u < 18446744073709551616) : CW Try.prog 99 [.cv (.flt u)] ⟨[.own 1 (bys (floatL u))], []⟩ :=
  top99 rfl rfl [] trivial (w99 u hu _ fun σ H h => retO rfl h)
theorem floatL_len (u : Nat) : (floatL u).length = 8 := floatI_len u 8
def rdF (b : List UInt8) (a : Int) : Nat × Int × Int :=
  if a < 0 ∨ (b.length : Int) < a then (0, 0, 1) else if (b.length : Int) - a < 8 then (0, 0, 10) else (leV (cutL b a 8), a + 8, 0)
theorem leV_take {X : List UInt8} {i : Nat} (h : i < X.length) : leV (X.take (i + 1)) = leV (X.take i) + X[i].toNat * 256 ^ i := by
  rw [List.take_add_one, List.getElem?_eq_getElem h, Option.toList_some, leV_app, List.length_take, Nat.min_eq_left (by omega)]
theorem leV_or {X : List UInt8} {i : Nat} (h : i < X.length) (h8 : i < 8) :
    bitI .or .u64 ((leV (X.take i) : Nat) : Int) (IntKind.u64.wrap (IntKind.u64.wrap (X[i].toNat : Int) * 2 ^ min (8 * i) 64)) = ((leV (X.take (i + 1)) : Nat) : Int) := by
  have h1 := leV_lt (X.take i)
  rw [List.length_take, Nat.min_eq_left (by omega)] at h1
  have hc := X[i].toNat_lt
  have h3 : X[i].toNat * 256 ^ i ≤ 255 * 256 ^ i := Nat.mul_le_mul_right _ (by omega)
  have h4 : 256 ^ i * 256 ≤ 256 ^ 8 := by rw [← Nat.pow_succ]; exact Nat.pow_le_pow_right (by decide) (by omega)
  have h5 : (256 : Nat) ^ 8 = 18446744073709551616 := by decide
  rw [show IntKind.u64.wrap (X[i].toNat : Int) = (X[i].toNat : Int) by rw [wrap_u64]; omega, Nat.min_eq_left (by omega), pow8, ← Int.natCast_mul,
    show IntKind.u64.wrap ((X[i].toNat * 256 ^ i : Nat) : Int) = ((X[i].toNat * 256 ^ i : Nat) : Int) by rw [wrap_u64]; omega, or_u64 (by omega) (by omega), leV_take h]
  congr 1
  have := Nat.two_pow_add_eq_or_of_lt (i := 8 * i) (b := leV (X.take i)) (by rw [Nat.pow_mul]; exact h1) X[i].toNat
  rw [Nat.pow_mul, show 2 ^ 8 = 256 from rfl] at this
  rw [Nat.or_comm, Nat.mul_comm, ← this, Nat.add_comm]
theorem cutL_len {b : List UInt8} {a n : Int} (h0 : 0 ≤ a) (h1 : 0 ≤ n) (h : a + n ≤ b.length) : (cutL b a n).length = n.toNat := by
  unfold cutL; rw [List.length_take, List.length_drop]; omega
theorem w125 (b : List UInt8) (a : Int) (hb : b.length < 1000000000000000) (ha : -9223372036854775808 ≤ a ∧ a < 9223372036854775808) (Q : Ex → Slots → LH → Prop) (hQ : ∀ σ H, Slots.get σ 4 = .c (.flt ((rdF b a).1)) → Slots.get σ 5 = .c (.int .i64 ((rdF b a).2.1)) → Slots.get σ 6 = .c (.int .i64 ((rdF b a).2.2)) → Q .ret σ H) : rnC Try.prog b125 Q [(0, .c (.sl 1 (bys b))), (1, .c (.int .i64 a))] [] := by
  unfold b125
  simp only [go_sem, ↓reduceIte, Nat.reduceEqDiff, Nat.reduceMul, Nat.reduceAdd, Nat.reduceDiv, Nat.reduceSub, Nat.reduceLT, Nat.reduceLeDiff, Int.reduceLE, Int.reduceLT, Int.reduceToNat, Int.reduceEq]
  unfold rdF at hQ
  refine ⟨fun h => ?_, fun h => ?_⟩
  · rw [if_pos h] at hQ; exact hQ _ _ rfl rfl rfl
  rw [if_neg (by omega)] at hQ
  have c133 := cw133 b a 8 hb h ⟨by decide, by decide⟩
  by_cases h3 : (b.length : Int) - a < 8
  · rw [if_pos h3] at hQ
    rw [pieceC, pieceB, if_pos h3, decide_eq_true h3] at c133
    refine callK_2 _ _ (fun _ => c133) (by simp only [go_sem, ↓reduceIte, Nat.reduceEqDiff, Nat.reduceMul, Nat.reduceAdd, Nat.reduceDiv, Nat.reduceSub, Nat.reduceLT, Nat.reduceLeDiff, Int.reduceLE, Int.reduceLT, Int.reduceToNat, Int.reduceEq]) rfl rfl ?_
    simp only [go_sem, ↓reduceIte, Nat.reduceEqDiff, Nat.reduceMul, Nat.reduceAdd, Nat.reduceDiv, Nat.reduceSub, Nat.reduceLT, Nat.reduceLeDiff, Int.reduceLE, Int.reduceLT, Int.reduceToNat, Int.reduceEq]
    repeat (refine ⟨by (first | omega | (intro h1 h2; exact ⟨h1, h2⟩) | (intro h1; omega) | (intro h1; exact h1) | trivial), ?_⟩)
    exact hQ _ _ rfl rfl rfl
  rw [if_neg h3] at hQ
  rw [pieceC, pieceB, if_neg h3, decide_eq_false h3] at c133
  refine callK_2 _ _ (fun _ => c133) (by simp only [go_sem, ↓reduceIte, Nat.reduceEqDiff, Nat.reduceMul, Nat.reduceAdd, Nat.reduceDiv, Nat.reduceSub, Nat.reduceLT, Nat.reduceLeDiff, Int.reduceLE, Int.reduceLT, Int.reduceToNat, Int.reduceEq]) rfl rfl ?_
  simp only [go_sem, ↓reduceIte, Nat.reduceEqDiff, Nat.reduceMul, Nat.reduceAdd, Nat.reduceDiv, Nat.reduceSub, Nat.reduceLT, Nat.reduceLeDiff, Int.reduceLE, Int.reduceLT, Int.reduceToNat, Int.reduceEq]
  repeat (refine ⟨by (first | omega | (intro h1 h2; exact ⟨h1, h2⟩) | (intro h1; omega) | (intro h1; exact h1) | trivial), ?_⟩)
  have hX : (cutL b a 8).length = 8 := cutL_len (by omega) (by decide) (by omega)
  generalize cutL b a 8 = X at hX hQ
  refine loopR.by (α := Nat) (fun i => [(1, .c (.int .i64 a)), (7, .c (.sl 1 (bys X))), (9, .c (.int .u64 (leV (X.take i)))), (28, .c (.int .i64 8)), (29, .c (.int .i64 i))]) (fun i => []) (fun i => 8 - i) (fun i => i ≤ 8) 0 (Nat.zero_le _) ?_ ?_
  · intro Y hY
    simp only [go_sem, ↓reduceIte, Nat.reduceEqDiff, Nat.reduceMul, Nat.reduceAdd, Nat.reduceDiv, Nat.reduceSub, Nat.reduceLT, Nat.reduceLeDiff, Int.reduceLE, Int.reduceLT, Int.reduceToNat, Int.reduceEq, n125_0, hX]
    exact hY
  intro i hi Y hY
  unfold l125_0
  rcases Nat.lt_or_ge i 8 with hlt | hge
  · have hw8 : IntKind.i64.wrap (8 * (i : Int)) = ((8 * i : Nat) : Int) := by rw [wrap_i64]; omega
    have eb := bys_at (l := X) (k := i) (by omega)
    simp only [go_sem, ↓reduceIte, Nat.reduceEqDiff, Nat.reduceMul, Nat.reduceAdd, Nat.reduceDiv, Nat.reduceSub, Nat.reduceLT, Nat.reduceLeDiff, Int.reduceLE, Int.reduceLT, Int.reduceToNat, Int.reduceEq, n125_0, hw8, eb]
    rw [leV_or (by omega) hlt, succ64 hlt (by omega)]
    exact ⟨fun _ => ⟨by omega, by omega, hY (i + 1) (by omega) (by omega)⟩, fun h => by omega⟩
  · have : i = 8 := by omega
    subst this
    simp only [go_sem, ↓reduceIte, Nat.reduceEqDiff, Nat.reduceMul, Nat.reduceAdd, Nat.reduceDiv, Nat.reduceSub, Nat.reduceLT, Nat.reduceLeDiff, Int.reduceLE, Int.reduceLT, Int.reduceToNat, Int.reduceEq, n125_0, bys_out (l := X) (k := 8) (by omega)]
    rw [List.take_of_length_le (by omega)]
    refine ⟨fun h => by omega, fun _ => ?_⟩
    refine callK_1 _ (fun _ => cw134 (leV X : Int)) (by simp only [go_sem, ↓reduceIte, Nat.reduceEqDiff, Nat.reduceMul, Nat.reduceAdd, Nat.reduceDiv, Nat.reduceSub, Nat.reduceLT, Nat.reduceLeDiff, Int.reduceLE, Int.reduceLT, Int.reduceToNat, Int.reduceEq]) rfl rfl ?_
    simp only [go_sem, ↓reduceIte, Nat.reduceEqDiff, Nat.reduceMul, Nat.reduceAdd, Nat.reduceDiv, Nat.reduceSub, Nat.reduceLT, Nat.reduceLeDiff, Int.reduceLE, Int.reduceLT, Int.reduceToNat, Int.reduceEq]
    repeat (refine ⟨by (first | omega | (intro h1 h2; exact ⟨h1, h2⟩) | (intro h1; omega) | (intro h1; exact h1) | trivial), ?_⟩)
    refine hQ _ _ rfl ?_ rfl
    simp only [go_sem, ↓reduceIte, Nat.reduceEqDiff, Nat.reduceMul, Nat.reduceAdd, Nat.reduceDiv, Nat.reduceSub, Nat.reduceLT, Nat.reduceLeDiff, Int.reduceLE, Int.reduceLT, Int.reduceToNat, Int.reduceEq]
    congr 2
    rw [wrap_i64]; omega
theorem cw125 (b : List UInt8) (a : Int) (hb : b.length < 1000000000000000) (ha : -9223372036854775808 ≤ a ∧ a < 9223372036854775808) : CW Try.prog 125 [.cv (.sl 1 (bys b)), .cv (.int .i64 a)] ⟨[.cv (.flt ((rdF b a).1)), .cv (.int .i64 ((rdF b a).2.1)), .cv (.int .i64 ((rdF b a).2.2))], []⟩ :=
  top125 rfl rfl [] trivial (w125 b a hb ha _ fun σ H h h' h'' => ret3 rfl h h' h'')
theorem w136 (b : List UInt8) (a : Int) (hb : b.length < 1000000000000000) (ha : -9223372036854775808 ≤ a ∧ a < 9223372036854775808) (Q : Ex → Slots → LH → Prop) (hQ : ∀ σ H, Slots.get σ 4 = .c (.int .u64 ((rdF b a).1 : Int)) → Slots.get σ 5 = .c (.int .i64 ((rdF b a).2.1)) → Slots.get σ 6 = .c (.int .i64 ((rdF b a).2.2)) → Q .ret σ H) : rnC Try.prog b136 Q [(0, .c (.sl 1 (bys b))), (1, .c (.int .i64 a))] [] := by
  unfold b136
  simp only [go_sem, ↓reduceIte, Nat.reduceEqDiff, Nat.reduceMul, Nat.reduceAdd, Nat.reduceDiv, Nat.reduceSub, Nat.reduceLT, Nat.reduceLeDiff, Int.reduceLE, Int.reduceLT, Int.reduceToNat, Int.reduceEq]
  unfold rdF at hQ
  refine ⟨fun h => ?_, fun h => ?_⟩
  · rw [if_pos h] at hQ; exact hQ _ _ rfl rfl rfl
  rw [if_neg (by omega)] at hQ
  have e1 : IntKind.i64.wrap ((b.length : Int) - a) = (b.length : Int) - a := by rw [wrap_i64]; omega
  rw [e1]
  refine ⟨fun h3 => ?_, fun h3 => ?_⟩
  · rw [if_pos h3] at hQ; exact hQ _ _ rfl rfl rfl
  rw [if_neg (by omega)] at hQ
  have hX : (cutL b a 8).length = 8 := cutL_len (by omega) (by decide) (by omega)
  refine loopR.by (α := Nat) (fun i => [(0, .c (.sl 1 (bys b))), (1, .c (.int .i64 a)), (7, .c (.int .u64 (leV ((cutL b a 8).take i)))), (8, .c (.int .i64 i))]) (fun i => []) (fun i => 8 - i) (fun i => i ≤ 8) 0 (Nat.zero_le _) ?_ ?_
  · intro Y hY
    simp only [go_sem, ↓reduceIte, Nat.reduceEqDiff, Nat.reduceMul, Nat.reduceAdd, Nat.reduceDiv, Nat.reduceSub, Nat.reduceLT, Nat.reduceLeDiff, Int.reduceLE, Int.reduceLT, Int.reduceToNat, Int.reduceEq, n136_0]
    exact hY
  intro i hi Y hY
  unfold l136_0
  have hw : IntKind.i64.wrap (a + (i : Int)) = ((a.toNat + i : Nat) : Int) := by rw [wrap_i64]; omega
  rcases Nat.lt_or_ge i 8 with hlt | hge
  · have hw8 : IntKind.i64.wrap (8 * (i : Int)) = ((8 * i : Nat) : Int) := by rw [wrap_i64]; omega
    have hu8 : IntKind.u64.wrap ((8 * i : Nat) : Int) = ((8 * i : Nat) : Int) := by rw [wrap_u64]; omega
    have eb := bys_at (l := b) (k := a.toNat + i) (by omega)
    have ex : b[a.toNat + i]'(by omega) = (cutL b a 8)[i]'(by omega) := by simp [cutL]
    rw [ex] at eb
    simp only [go_sem, ↓reduceIte, Nat.reduceEqDiff, Nat.reduceMul, Nat.reduceAdd, Nat.reduceDiv, Nat.reduceSub, Nat.reduceLT, Nat.reduceLeDiff, Int.reduceLE, Int.reduceLT, Int.reduceToNat, Int.reduceEq, n136_0, hw, hw8, hu8, eb]
    rw [leV_or (by omega) hlt, succ64 hlt (by omega)]
    exact ⟨fun _ => ⟨by omega, by omega, hY (i + 1) (by omega) (by omega)⟩, fun h => by omega⟩
  · have : i = 8 := by omega
    subst this
    have fin : ∀ σ H, Slots.get σ 4 = .c (.int .u64 (leV ((cutL b a 8).take 8) : Int)) → Slots.get σ 5 = .c (.int .i64 (a + 8)) → Slots.get σ 6 = .c (.int .i64 0) → Q .ret σ H := fun σ H x y z => hQ σ H (by rw [x, List.take_of_length_le (by omega)]) y z
    rcases Nat.lt_or_ge (a.toNat + 8) b.length with hl2 | hl2
    · simp only [go_sem, ↓reduceIte, Nat.reduceEqDiff, Nat.reduceMul, Nat.reduceAdd, Nat.reduceDiv, Nat.reduceSub, Nat.reduceLT, Nat.reduceLeDiff, Int.reduceLE, Int.reduceLT, Int.reduceToNat, Int.reduceEq, n136_0, hw, bys_at hl2]
      refine ⟨fun h => by omega, fun _ => fin _ _ rfl ?_ rfl⟩
      simp only [go_sem, ↓reduceIte, Nat.reduceEqDiff, Nat.reduceMul, Nat.reduceAdd, Nat.reduceDiv, Nat.reduceSub, Nat.reduceLT, Nat.reduceLeDiff, Int.reduceLE, Int.reduceLT, Int.reduceToNat, Int.reduceEq]
      congr 2
      rw [wrap_i64]; omega
    · simp only [go_sem, ↓reduceIte, Nat.reduceEqDiff, Nat.reduceMul, Nat.reduceAdd, Nat.reduceDiv, Nat.reduceSub, Nat.reduceLT, Nat.reduceLeDiff, Int.reduceLE, Int.reduceLT, Int.reduceToNat, Int.reduceEq, n136_0, hw, bys_out hl2]
      refine ⟨fun h => by omega, fun _ => fin _ _ rfl ?_ rfl⟩
      simp only [go_sem, ↓reduceIte, Nat.reduceEqDiff, Nat.reduceMul, Nat.reduceAdd, Nat.reduceDiv, Nat.reduceSub, Nat.reduceLT, Nat.reduceLeDiff, Int.reduceLE, Int.reduceLT, Int.reduceToNat, Int.reduceEq]
      congr 2
      rw [wrap_i64]; omega
theorem cw136 (b : List UInt8) (a : Int) (hb : b.length < 1000000000000000) (ha : -9223372036854775808 ≤ a ∧ a < 9223372036854775808) : CW Try.prog 136 [.cv (.sl 1 (bys b)), .cv (.int .i64 a)] ⟨[.cv (.int .u64 ((rdF b a).1 : Int)), .cv (.int .i64 ((rdF b a).2.1)), .cv (.int .i64 ((rdF b a).2.2))], []⟩ :=
  top136 rfl rfl [] trivial (w136 b a hb ha _ fun σ H h h' h'' => ret3 rfl h h' h'')
end Go.Proofs.Ytcpdnpaedkcebaa.V
namespace Go.Proofs.Ytcpdnpaedkcebaa.Crc
set_option linter.unusedVariables false
def P : Nat := 2197175160
def s1 (r : Nat) : Nat := if r % 2 = 1 then (r / 2) ^^^ P else r / 2
def sn : Nat → Nat → Nat
  | 0, r => r
  | n + 1, r => sn n (s1 r)
theorem s1_lt {r : Nat} (h : r < 2 ^ 32) : s1 r < 2 ^ 32 := by
  unfold s1
  split
  · exact Nat.xor_lt_two_pow (by omega) (by decide)
  · omega
theorem sn_lt {n r : Nat} (h : r < 2 ^ 32) : sn n r < 2 ^ 32 := by
  induction n generalizing r with
  | zero => exact h
  | succ n ih => exact ih (s1_lt h)
theorem sn_add (m n r : Nat) : sn (m + n) r = sn n (sn m r) := by
  induction m generalizing r with
  | zero => rw [Nat.zero_add]; rfl
  | succ m ih => rw [Nat.succ_add, sn, ih]; rfl
def crc : Nat → List Nat → Nat
  | r, [] => r
  | r, c :: l => crc (sn 8 (r ^^^ c)) l
theorem crc_cons (r c : Nat) (l : List Nat) : crc r (c :: l) = crc (sn 8 (r ^^^ c)) l := rfl
theorem crc_lt {l : List Nat} {r : Nat} (hr : r < 2 ^ 32) (hl : ∀ c ∈ l, c < 256) : crc r l < 2 ^ 32 := by
  induction l generalizing r with
  | nil => exact hr
  | cons c l ih =>
    rw [crc_cons]
    exact ih (sn_lt (Nat.xor_lt_two_pow hr (Nat.lt_trans (hl c List.mem_cons_self) (by decide)))) (fun x hx => hl x (List.mem_cons_of_mem _ hx))
end Go.Proofs.Ytcpdnpaedkcebaa.Crc
namespace Go.Proofs.Ytcpdnpaedkcebaa.V
open Go Go.RowKit
set_option linter.unusedVariables false
set_option linter.unusedSimpArgs false
set_option maxRecDepth 100000
def l61_1 : IC := (.seq (.seq (.reg [⟨(some 19), 0, none, .mv (.t 5)⟩,
  ⟨(some 20), 0, none, .bin .lss (.t 19) (.c (.int .i64 8))⟩]) (.cond (.t 20) .skip (.exit 2))) (.seq (.block 3 (.seq (.reg [⟨(some 23), 0, none, .mv (.t 3)⟩,
  ⟨(some 24), 0, none, .bin .and (.t 23) (.c (.int .u32 1))⟩,
  ⟨(some 25), 0, none, .bin .eql (.t 24) (.c (.int .u32 1))⟩]) (.cond (.t 25) (.reg [⟨(some 26), 0, none, .mv (.t 3)⟩,
  ⟨(some 27), 0, none, .bin .shr (.t 26) (.c (.int .u64 1))⟩,
  ⟨(some 28), 0, none, .bin .xor (.t 27) (.c (.int .u32 2197175160))⟩,
  ⟨(some 3), 0, none, .mv (.t 28)⟩]) (.reg [⟨(some 29), 0, none, .mv (.t 3)⟩,
  ⟨(some 30), 0, none, .bin .shr (.t 29) (.c (.int .u64 1))⟩,
  ⟨(some 3), 0, none, .mv (.t 30)⟩])))) (.reg [⟨(some 21), 0, none, .mv (.t 5)⟩,
  ⟨(some 22), 0, none, .bin .add (.t 21) (.c (.int .i64 1))⟩,
  ⟨(some 5), 0, none, .mv (.t 22)⟩])))
def n61_1 : Norm := ⟨[(0, .plain), (3, .plain), (4, .plain), (5, .plain)], []⟩
def l61_0 : IC := (.seq (.seq (.reg [⟨(some 6), 0, none, .mv (.t 4)⟩,
  ⟨(some 7), 0, none, .mv (.t 0)⟩,
  ⟨(some 8), 0, none, .len false (.t 7)⟩,
  ⟨(some 9), 0, none, .bin .lss (.t 6) (.t 8)⟩]) (.cond (.t 9) .skip (.exit 0))) (.seq (.block 1 (.seq (.reg [⟨(some 12), 0, none, .mv (.t 3)⟩,
  ⟨(some 13), 0, none, .mv (.t 0)⟩,
  ⟨(some 14), 0, none, .mv (.t 4)⟩,
  ⟨(some 15), 0, none, .ia (.t 13) (.t 14) 1⟩,
  ⟨(some 16), 0, none, .ld (.t 15) none⟩,
  ⟨(some 17), 0, none, .conv .u32 (.t 16)⟩,
  ⟨(some 18), 0, none, .bin .xor (.t 12) (.t 17)⟩,
  ⟨(some 3), 0, none, .mv (.t 18)⟩]) (.seq (.reg [⟨(some 5), 0, none, .mv (.c (.int .i64 0))⟩]) (.block 2 (.loop n61_1 l61_1))))) (.reg [⟨(some 10), 0, none, .mv (.t 4)⟩,
  ⟨(some 11), 0, none, .bin .add (.t 10) (.c (.int .i64 1))⟩,
  ⟨(some 4), 0, none, .mv (.t 11)⟩])))
def n61_0 : Norm := ⟨[(0, .plain), (3, .plain), (4, .plain)], []⟩
def b61 : IC := (.seq (.reg [⟨(some 2), 0, none, .mv (.c (.int .u32 0))⟩]) (.seq (.reg [⟨(some 3), 0, none, .mv (.c (.int .u32 4294967295))⟩]) (.seq (.seq (.reg [⟨(some 4), 0, none, .mv (.c (.int .i64 0))⟩]) (.block 0 (.loop n61_0 l61_0))) (.seq (.reg [⟨(some 31), 0, none, .mv (.t 3)⟩,
  ⟨(some 32), 0, none, .bin .xor (.t 31) (.c (.int .u32 4294967295))⟩,
  ⟨(some 2), 0, none, .mv (.t 32)⟩]) .ret))))
def rs61 : List (Nat × Option Nat × Mode) := [(2, none, .plain)]
theorem chk61 : chkC Try.prog Try.f61.ntmps b61 (Try.f61.body.getD .skip) = true := by decide +kernel
theorem top61 {args : List Arg} {out : Out} (ha : args.length.ble Try.f61.ntmps = true) (h8 : args.length.ble 8 = true) (mss : List (List (Option Nat))) (hb : backOK args out.back)
    (hw : rnC Try.prog b61 (topQ rs61 args mss out) (slotsOf (argsAV argBase args 0) 0) (argsOb argBase args 0)) : CW Try.prog 61 args out :=
  CW.of Try.func61 rs61 mss (by decide +kernel) (by decide +kernel) (by decide +kernel) ha h8 chk61 hb hw
def l39_2 : IC := (.seq (.reg [⟨(some 26), 0, none, .bin .lss (.t 25) (.c (.int .i64 8))⟩]) (.seq (.cond (.t 26) .skip (.exit 4)) (.seq (.block 5 (.seq (.reg [⟨(some 27), 0, none, .mv (.t 3)⟩,
  ⟨(some 28), 0, none, .bin .and (.t 27) (.c (.int .u32 1))⟩,
  ⟨(some 8), 0, none, .mv (.t 28)⟩]) (.seq (.reg [⟨(some 29), 0, none, .mv (.t 3)⟩,
  ⟨(some 30), 0, none, .bin .shr (.t 29) (.c (.int .u64 1))⟩,
  ⟨(some 3), 0, none, .mv (.t 30)⟩]) (.seq (.reg [⟨(some 31), 0, none, .mv (.t 8)⟩,
  ⟨(some 32), 0, none, .bin .eql (.t 31) (.c (.int .u32 1))⟩]) (.cond (.t 32) (.reg [⟨(some 33), 0, none, .mv (.t 3)⟩,
  ⟨(some 34), 0, none, .bin .xor (.t 33) (.c (.int .u32 2197175160))⟩,
  ⟨(some 3), 0, none, .mv (.t 34)⟩]) .skip))))) (.reg [⟨(some 35), 0, none, .bin .add (.t 25) (.c (.int .i64 1))⟩,
  ⟨(some 25), 0, none, .mv (.t 35)⟩]))))
def n39_2 : Norm := ⟨[(3, .plain), (9, .plain), (10, .plain), (11, .plain), (15, .plain), (16, .plain), (17, .plain), (25, .plain)], []⟩
def l39_1 : IC := (.seq (.reg [⟨(some 18), 0, none, .bin .lss (.t 17) (.t 16)⟩]) (.seq (.cond (.t 18) .skip (.exit 2)) (.seq (.block 3 (.seq (.reg [⟨(some 19), 0, none, .ia (.t 15) (.t 17) 1⟩,
  ⟨(some 20), 0, none, .ld (.t 19) none⟩,
  ⟨(some 7), 0, none, .mv (.t 20)⟩]) (.seq (.reg [⟨(some 21), 0, none, .mv (.t 3)⟩,
  ⟨(some 22), 0, none, .mv (.t 7)⟩,
  ⟨(some 23), 0, none, .conv .u32 (.t 22)⟩,
  ⟨(some 24), 0, none, .bin .xor (.t 21) (.t 23)⟩,
  ⟨(some 3), 0, none, .mv (.t 24)⟩]) (.seq (.reg [⟨(some 25), 0, none, .mv (.c (.int .i64 0))⟩]) (.block 4 (.loop n39_2 l39_2)))))) (.reg [⟨(some 36), 0, none, .bin .add (.t 17) (.c (.int .i64 1))⟩,
  ⟨(some 17), 0, none, .mv (.t 36)⟩]))))
def n39_1 : Norm := ⟨[(3, .plain), (9, .plain), (10, .plain), (11, .plain), (15, .plain), (16, .plain), (17, .plain)], []⟩
def l39_0 : IC := (.seq (.reg [⟨(some 12), 0, none, .bin .lss (.t 11) (.t 10)⟩]) (.seq (.cond (.t 12) .skip (.exit 0)) (.seq (.block 1 (.seq (.reg [⟨(some 13), 0, none, .ia (.t 9) (.t 11) 1⟩,
  ⟨(some 14), 0, none, .ld (.t 13) none⟩,
  ⟨(some 5), 0, none, .mv (.t 14)⟩]) (.seq (.reg [⟨(some 15), 0, none, .mv (.t 5)⟩,
  ⟨(some 16), 0, none, .len false (.t 15)⟩,
  ⟨(some 17), 0, none, .mv (.c (.int .i64 0))⟩]) (.block 2 (.loop n39_1 l39_1))))) (.reg [⟨(some 37), 0, none, .bin .add (.t 11) (.c (.int .i64 1))⟩,
  ⟨(some 11), 0, none, .mv (.t 37)⟩]))))
def n39_0 : Norm := ⟨[(3, .plain), (9, .plain), (10, .plain), (11, .plain)], []⟩
def b39 : IC := (.seq (.reg [⟨(some 2), 0, none, .mv (.c (.int .u32 0))⟩]) (.seq (.reg [⟨(some 3), 0, none, .mv (.c (.int .u32 4294967295))⟩]) (.seq (.seq (.reg [⟨(some 9), 0, none, .mv (.t 0)⟩,
  ⟨(some 10), 0, none, .len false (.t 9)⟩,
  ⟨(some 11), 0, none, .mv (.c (.int .i64 0))⟩]) (.block 0 (.loop n39_0 l39_0))) (.seq (.reg [⟨(some 38), 0, none, .mv (.t 3)⟩,
  ⟨(some 39), 0, none, .cpl (.t 38)⟩,
  ⟨(some 2), 0, none, .mv (.t 39)⟩]) .ret))))
def rs39 : List (Nat × Option Nat × Mode) := [(2, none, .plain)]
theorem chk39 : chkC Try.prog Try.f39.ntmps b39 (Try.f39.body.getD .skip) = true := by decide +kernel
theorem top39 {args : List Arg} {out : Out} (ha : args.length.ble Try.f39.ntmps = true) (h8 : args.length.ble 8 = true) (mss : List (List (Option Nat))) (hb : backOK args out.back)
    (hw : rnC Try.prog b39 (topQ rs39 args mss out) (slotsOf (argsAV argBase args 0) 0) (argsOb argBase args 0)) : CW Try.prog 39 args out :=
  CW.of Try.func39 rs39 mss (by decide +kernel) (by decide +kernel) (by decide +kernel) ha h8 chk39 hb hw
def nats (l : List UInt8) : List Nat := l.map (·.toNat)
theorem nats_lt (l : List UInt8) : ∀ c ∈ nats l, c < 256 := by
  intro c hc
  obtain ⟨b, _, rfl⟩ := List.mem_map.1 hc
  exact b.toNat_lt
def reg (r : Nat) (l : List UInt8) : Nat := Crc.crc r (nats l)
theorem reg_lt {r : Nat} (h : r < 4294967296) (l : List UInt8) : reg r l < 4294967296 := Crc.crc_lt h (nats_lt l)
theorem reg_one (r : Nat) (l : List UInt8) (c : UInt8) : reg r (l ++ [c]) = Crc.sn 8 (reg r l ^^^ c.toNat) := by
  unfold reg nats
  rw [List.map_append]
  generalize l.map (·.toNat) = m
  induction m generalizing r with
  | nil => rfl
  | cons d m ih => simp only [List.cons_append, Crc.crc_cons]; exact ih _
theorem reg_app (r : Nat) (a b : List UInt8) : reg r (a ++ b) = reg (reg r a) b := by
  unfold reg nats
  rw [List.map_append]
  generalize a.map (·.toNat) = m
  induction m generalizing r with
  | nil => rfl
  | cons d m ih => simp only [List.cons_append, Crc.crc_cons]; exact ih _
def sumW (l : List UInt8) : Nat := reg 4294967295 l ^^^ 4294967295
theorem sumW_lt (l : List UInt8) : sumW l < 4294967296 := Nat.xor_lt_two_pow (n := 32) (reg_lt (by decide) l) (by decide)
theorem n32 {n : Nat} : BitVec.ofInt 32 (n : Int) = BitVec.ofNat 32 n := by apply BitVec.eq_of_toNat_eq; simp [BitVec.toNat_ofInt]
theorem and32 {n : Nat} (h : n < 4294967296) : bitI .and .u32 (n : Int) 1 = ((n % 2 : Nat) : Int) := by
  show IntKind.u32.wrap ((BitVec.ofInt 32 (n : Int) &&& BitVec.ofInt 32 1).toNat : Int) = _
  rw [n32, show BitVec.ofInt 32 1 = BitVec.ofNat 32 (2 ^ 1 - 1) by decide, BitVec.toNat_and, BitVec.toNat_ofNat, BitVec.toNat_ofNat, Nat.mod_eq_of_lt h, Nat.mod_eq_of_lt (a := 2 ^ 1 - 1) (by decide), Nat.and_two_pow_sub_one_eq_mod, wrap_u32]
  omega
theorem xor32 {n m : Nat} (hn : n < 4294967296) (hm : m < 4294967296) : bitI .xor .u32 (n : Int) (m : Int) = ((n ^^^ m : Nat) : Int) := by
  show IntKind.u32.wrap ((BitVec.ofInt 32 (n : Int) ^^^ BitVec.ofInt 32 (m : Int)).toNat : Int) = _
  rw [n32, n32, BitVec.toNat_xor, BitVec.toNat_ofNat, BitVec.toNat_ofNat, Nat.mod_eq_of_lt (by omega), Nat.mod_eq_of_lt (by omega), wrap_u32]
  have : n ^^^ m < 2 ^ 32 := Nat.xor_lt_two_pow (by omega) (by omega)
  omega
theorem sn_step (j r : Nat) : Crc.sn (j + 1) r = Crc.s1 (Crc.sn j r) := by rw [Crc.sn_add]; rfl
theorem s1_odd {r : Nat} (h : r < 4294967296) (h1 : r % 2 = 1) : bitI .xor .u32 (((r : Nat) : Int).fdiv (2 ^ min 1 32)) 2197175160 = ((Crc.s1 r : Nat) : Int) := by
  rw [show (2 : Int) ^ min 1 32 = ((2 : Nat) : Int) from rfl, fdiv_nat, show (2197175160 : Int) = ((2197175160 : Nat) : Int) from rfl, xor32 (by omega) (by decide)]
  unfold Crc.s1; rw [if_pos h1]; rfl
theorem s1_even {r : Nat} (h1 : r % 2 ≠ 1) : ((r : Nat) : Int).fdiv (2 ^ min 1 32) = ((Crc.s1 r : Nat) : Int) := by
  rw [show (2 : Int) ^ min 1 32 = ((2 : Nat) : Int) from rfl, fdiv_nat]
  unfold Crc.s1; rw [if_neg h1]
theorem w61 (b : List UInt8) (hb : b.length < 1000000000000000) (Q : Ex → Slots → LH → Prop) (hQ : ∀ σ H, Slots.get σ 2 = .c (.int .u32 (sumW b : Int)) → Q .ret σ H) : rnC Try.prog b61 Q [(0, .c (.sl 1 (bys b)))] [] := by
  unfold b61
  simp only [go_sem, ↓reduceIte, Nat.reduceEqDiff, Nat.reduceMul, Nat.reduceAdd, Nat.reduceDiv, Nat.reduceSub, Nat.reduceLT, Nat.reduceLeDiff, Int.reduceLE, Int.reduceLT, Int.reduceToNat, Int.reduceEq]
  refine loopR.by (α := Nat) (fun i => [(0, .c (.sl 1 (bys b))), (3, .c (.int .u32 (reg 4294967295 (b.take i)))), (4, .c (.int .i64 i))]) (fun i => []) (fun i => b.length - i) (fun i => i ≤ b.length) 0 (Nat.zero_le _) ?_ ?_
  · intro Y hY
    simp only [go_sem, ↓reduceIte, Nat.reduceEqDiff, Nat.reduceMul, Nat.reduceAdd, Nat.reduceDiv, Nat.reduceSub, Nat.reduceLT, Nat.reduceLeDiff, Int.reduceLE, Int.reduceLT, Int.reduceToNat, Int.reduceEq, n61_0]
    exact hY
  intro i hi Y hY
  unfold l61_0
  rcases Nat.lt_or_ge i b.length with hlt | hge
  · have eb := bys_at hlt
    have hr := reg_lt (r := 4294967295) (by decide) (b.take i)
    have hc := b[i].toNat_lt
    have hx : bitI .xor .u32 ((reg 4294967295 (b.take i) : Nat) : Int) (IntKind.u32.wrap (b[i].toNat : Int)) = ((reg 4294967295 (b.take i) ^^^ b[i].toNat : Nat) : Int) := by
      rw [show IntKind.u32.wrap (b[i].toNat : Int) = (b[i].toNat : Int) by rw [wrap_u32]; omega, xor32 hr (by omega)]
    have hy : reg 4294967295 (b.take i) ^^^ b[i].toNat < 4294967296 := Nat.xor_lt_two_pow (n := 32) hr (by omega)
    simp only [go_sem, ↓reduceIte, Nat.reduceEqDiff, Nat.reduceMul, Nat.reduceAdd, Nat.reduceDiv, Nat.reduceSub, Nat.reduceLT, Nat.reduceLeDiff, Int.reduceLE, Int.reduceLT, Int.reduceToNat, Int.reduceEq, n61_0, eb, hx]
    refine ⟨fun _ => ⟨by omega, ?_⟩, fun h => by omega⟩
    have hfin : reg 4294967295 (b.take (i + 1)) = Crc.sn 8 (reg 4294967295 (b.take i) ^^^ b[i].toNat) := by
      rw [List.take_add_one, List.getElem?_eq_getElem hlt, Option.toList_some, reg_one]
    generalize reg 4294967295 (b.take i) ^^^ b[i].toNat = R at hy hfin
    refine loopR.by (α := Nat) (fun j => [(0, .c (.sl 1 (bys b))), (3, .c (.int .u32 (Crc.sn j R))), (4, .c (.int .i64 i)), (5, .c (.int .i64 j))]) (fun j => []) (fun j => 8 - j) (fun j => j ≤ 8) 0 (Nat.zero_le _) ?_ ?_
    · intro Z hZ
      simp only [go_sem, ↓reduceIte, Nat.reduceEqDiff, Nat.reduceMul, Nat.reduceAdd, Nat.reduceDiv, Nat.reduceSub, Nat.reduceLT, Nat.reduceLeDiff, Int.reduceLE, Int.reduceLT, Int.reduceToNat, Int.reduceEq, n61_1]
      exact hZ
    intro j hj Z hZ
    unfold l61_1
    have hq : Crc.sn j R < 4294967296 := Crc.sn_lt hy
    have h1 := and32 hq
    simp only [go_sem, ↓reduceIte, Nat.reduceEqDiff, Nat.reduceMul, Nat.reduceAdd, Nat.reduceDiv, Nat.reduceSub, Nat.reduceLT, Nat.reduceLeDiff, Int.reduceLE, Int.reduceLT, Int.reduceToNat, Int.reduceEq, n61_1, h1]
    refine ⟨fun hj8 => ⟨fun h => ?_, fun h => ?_⟩, fun hj8 => ?_⟩
    · rw [s1_odd hq (by omega), ← sn_step, succ64 (show j < 8 by omega) (by omega)]
      exact hZ (j + 1) (by omega) (by omega)
    · rw [s1_even (by omega), ← sn_step, succ64 (show j < 8 by omega) (by omega)]
      exact hZ (j + 1) (by omega) (by omega)
    · have : j = 8 := by omega
      subst this
      rw [← hfin, succ64 hlt (by omega)]
      exact hY (i + 1) (by omega) (by omega)
  · have : i = b.length := by omega
    subst this
    simp only [go_sem, ↓reduceIte, Nat.reduceEqDiff, Nat.reduceMul, Nat.reduceAdd, Nat.reduceDiv, Nat.reduceSub, Nat.reduceLT, Nat.reduceLeDiff, Int.reduceLE, Int.reduceLT, Int.reduceToNat, Int.reduceEq, n61_0, bys_out (l := b) (k := b.length) (by omega)]
    refine ⟨fun h => by omega, fun _ => hQ _ _ ?_⟩
    simp only [go_sem, ↓reduceIte, Nat.reduceEqDiff, Nat.reduceMul, Nat.reduceAdd, Nat.reduceDiv, Nat.reduceSub, Nat.reduceLT, Nat.reduceLeDiff, Int.reduceLE, Int.reduceLT, Int.reduceToNat, Int.reduceEq]
    rw [List.take_length, show (4294967295 : Int) = ((4294967295 : Nat) : Int) from rfl, xor32 (reg_lt (by decide) b) (by decide)]
    rfl
theorem cw61 (b : List UInt8) (hb : b.length < 1000000000000000) : CW Try.prog 61 [.cv (.sl 1 (bys b))] ⟨[.cv (.int .u32 (sumW b : Int))], []⟩ :=
  top61 rfl rfl [] trivial (w61 b hb _ fun σ H h => ret1 rfl h)
def parts (ps : List (List UInt8)) : List CV := ps.map fun p => .sl 1 (bys p)
theorem parts_len (ps : List (List UInt8)) : (parts ps).length = ps.length := by simp [parts]
theorem parts_at {ps : List (List UInt8)} {k : Nat} (h : k < ps.length) : (parts ps).getD k .undef = .sl 1 (bys ps[k]) := by
  simp [parts, List.getD_eq_getElem?_getD, h]
theorem parts_out {l : List (List UInt8)} {k : Nat} (h : l.length ≤ k) : (parts l).getD k .undef = .undef := by
  rw [List.getD_eq_getElem?_getD, List.getElem?_eq_none (by rw [parts_len]; omega)]; rfl
attribute [go_sem] parts_len
theorem w39 (ps : List (List UInt8)) (hn : ps.length < 1000000000000000) (hb : ∀ p ∈ ps, p.length < 1000000000000000) (Q : Ex → Slots → LH → Prop) (hQ : ∀ σ H, Slots.get σ 2 = .c (.int .u32 (sumW ps.flatten : Int)) → Q .ret σ H) : rnC Try.prog b39 Q [(0, .c (.sl 1 (parts ps)))] [] := by
  unfold b39
  simp only [go_sem, ↓reduceIte, Nat.reduceEqDiff, Nat.reduceMul, Nat.reduceAdd, Nat.reduceDiv, Nat.reduceSub, Nat.reduceLT, Nat.reduceLeDiff, Int.reduceLE, Int.reduceLT, Int.reduceToNat, Int.reduceEq]
  refine loopR.by (α := Nat) (fun i => [(3, .c (.int .u32 (reg 4294967295 (ps.take i).flatten))), (9, .c (.sl 1 (parts ps))), (10, .c (.int .i64 ps.length)), (11, .c (.int .i64 i))]) (fun i => []) (fun i => ps.length - i) (fun i => i ≤ ps.length) 0 (Nat.zero_le _) ?_ ?_
  · intro Y hY
    simp only [go_sem, ↓reduceIte, Nat.reduceEqDiff, Nat.reduceMul, Nat.reduceAdd, Nat.reduceDiv, Nat.reduceSub, Nat.reduceLT, Nat.reduceLeDiff, Int.reduceLE, Int.reduceLT, Int.reduceToNat, Int.reduceEq, n39_0]
    exact hY
  intro i hi Y hY
  unfold l39_0
  rcases Nat.lt_or_ge i ps.length with hlt | hge
  · have hbp := hb ps[i] (List.getElem_mem hlt)
    have hfin : reg 4294967295 (ps.take (i + 1)).flatten = reg (reg 4294967295 (ps.take i).flatten) ps[i] := by
      rw [List.take_add_one, List.getElem?_eq_getElem hlt, Option.toList_some, List.flatten_append, reg_app]; simp
    have hR := reg_lt (r := 4294967295) (by decide) (ps.take i).flatten
    simp only [go_sem, ↓reduceIte, Nat.reduceEqDiff, Nat.reduceMul, Nat.reduceAdd, Nat.reduceDiv, Nat.reduceSub, Nat.reduceLT, Nat.reduceLeDiff, Int.reduceLE, Int.reduceLT, Int.reduceToNat, Int.reduceEq, n39_0, parts_at hlt]
    refine ⟨fun _ => ⟨by omega, ?_⟩, fun h => by omega⟩
    generalize ps[i] = b at hbp hfin
    generalize reg 4294967295 (ps.take i).flatten = R0 at hfin hR
    refine loopR.by (α := Nat) (fun k => [(3, .c (.int .u32 (reg R0 (b.take k)))), (9, .c (.sl 1 (parts ps))), (10, .c (.int .i64 ps.length)), (11, .c (.int .i64 i)), (15, .c (.sl 1 (bys b))), (16, .c (.int .i64 b.length)), (17, .c (.int .i64 k))]) (fun k => []) (fun k => b.length - k) (fun k => k ≤ b.length) 0 (Nat.zero_le _) ?_ ?_
    · intro Y hY
      simp only [go_sem, ↓reduceIte, Nat.reduceEqDiff, Nat.reduceMul, Nat.reduceAdd, Nat.reduceDiv, Nat.reduceSub, Nat.reduceLT, Nat.reduceLeDiff, Int.reduceLE, Int.reduceLT, Int.reduceToNat, Int.reduceEq, n39_1]
      exact hY
    intro k hk Z hZ
    unfold l39_1
    rcases Nat.lt_or_ge k b.length with hkl | hkg
    · have hr := reg_lt hR (b.take k)
      have hc := b[k].toNat_lt
      have hx : bitI .xor .u32 ((reg R0 (b.take k) : Nat) : Int) (IntKind.u32.wrap (b[k].toNat : Int)) = ((reg R0 (b.take k) ^^^ b[k].toNat : Nat) : Int) := by
        rw [show IntKind.u32.wrap (b[k].toNat : Int) = (b[k].toNat : Int) by rw [wrap_u32]; omega, xor32 hr (by omega)]
      have hy : reg R0 (b.take k) ^^^ b[k].toNat < 4294967296 := Nat.xor_lt_two_pow (n := 32) hr (by omega)
      have hfin2 : reg R0 (b.take (k + 1)) = Crc.sn 8 (reg R0 (b.take k) ^^^ b[k].toNat) := by
        rw [List.take_add_one, List.getElem?_eq_getElem hkl, Option.toList_some, reg_one]
      simp only [go_sem, ↓reduceIte, Nat.reduceEqDiff, Nat.reduceMul, Nat.reduceAdd, Nat.reduceDiv, Nat.reduceSub, Nat.reduceLT, Nat.reduceLeDiff, Int.reduceLE, Int.reduceLT, Int.reduceToNat, Int.reduceEq, n39_1, bys_at hkl, hx]
      refine ⟨fun _ => ⟨by omega, ?_⟩, fun h => by omega⟩
      generalize reg R0 (b.take k) ^^^ b[k].toNat = R at hy hfin2
      refine loopR.by (α := Nat) (fun j => [(3, .c (.int .u32 (Crc.sn j R))), (9, .c (.sl 1 (parts ps))), (10, .c (.int .i64 ps.length)), (11, .c (.int .i64 i)), (15, .c (.sl 1 (bys b))), (16, .c (.int .i64 b.length)), (17, .c (.int .i64 k)), (25, .c (.int .i64 j))]) (fun j => []) (fun j => 8 - j) (fun j => j ≤ 8) 0 (Nat.zero_le _) ?_ ?_
      · intro Z2 hZ2
        simp only [go_sem, ↓reduceIte, Nat.reduceEqDiff, Nat.reduceMul, Nat.reduceAdd, Nat.reduceDiv, Nat.reduceSub, Nat.reduceLT, Nat.reduceLeDiff, Int.reduceLE, Int.reduceLT, Int.reduceToNat, Int.reduceEq, n39_2]
        exact hZ2
      intro j hj Z2 hZ2
      unfold l39_2
      have hq : Crc.sn j R < 4294967296 := Crc.sn_lt hy
      have h1 := and32 hq
      simp only [go_sem, ↓reduceIte, Nat.reduceEqDiff, Nat.reduceMul, Nat.reduceAdd, Nat.reduceDiv, Nat.reduceSub, Nat.reduceLT, Nat.reduceLeDiff, Int.reduceLE, Int.reduceLT, Int.reduceToNat, Int.reduceEq, n39_2, h1]
      refine ⟨fun hj8 => ⟨fun h => ?_, fun h => ?_⟩, fun hj8 => ?_⟩
      · rw [s1_odd hq (by omega), ← sn_step, succ64 (show j < 8 by omega) (by omega)]
        exact hZ2 (j + 1) (by omega) (by omega)
      · rw [s1_even (by omega), ← sn_step, succ64 (show j < 8 by omega) (by omega)]
        exact hZ2 (j + 1) (by omega) (by omega)
      · have : j = 8 := by omega
        subst this
        rw [← hfin2, succ64 hkl (by omega)]
        exact hZ (k + 1) (by omega) (by omega)
    · have : k = b.length := by omega
      subst this
      simp only [go_sem, ↓reduceIte, Nat.reduceEqDiff, Nat.reduceMul, Nat.reduceAdd, Nat.reduceDiv, Nat.reduceSub, Nat.reduceLT, Nat.reduceLeDiff, Int.reduceLE, Int.reduceLT, Int.reduceToNat, Int.reduceEq, n39_1, bys_out (l := b) (k := b.length) (by omega)]
      refine ⟨fun h => by omega, fun _ => ?_⟩
      rw [List.take_length, ← hfin, succ64 hlt (by omega)]
      exact hY (i + 1) (by omega) (by omega)
  · have : i = ps.length := by omega
    subst this
    simp only [go_sem, ↓reduceIte, Nat.reduceEqDiff, Nat.reduceMul, Nat.reduceAdd, Nat.reduceDiv, Nat.reduceSub, Nat.reduceLT, Nat.reduceLeDiff, Int.reduceLE, Int.reduceLT, Int.reduceToNat, Int.reduceEq, n39_0, parts_out (l := ps) (k := ps.length) (by omega)]
    refine ⟨fun h => by omega, fun _ => hQ _ _ ?_⟩
    simp only [go_sem, ↓reduceIte, Nat.reduceEqDiff, Nat.reduceMul, Nat.reduceAdd, Nat.reduceDiv, Nat.reduceSub, Nat.reduceLT, Nat.reduceLeDiff, Int.reduceLE, Int.reduceLT, Int.reduceToNat, Int.reduceEq]
    rw [List.take_length]
    rw [show (if IntKind.u32.signed = true then (-1 : Int) else IntKind.u32.max) = ((4294967295 : Nat) : Int) from by decide, xor32 (by decide) (reg_lt (by decide) _), Nat.xor_comm]
    rfl
theorem cw39 (ps : List (List UInt8)) (hn : ps.length < 1000000000000000) (hb : ∀ p ∈ ps, p.length < 1000000000000000) : CW Try.prog 39 [.cv (.sl 1 (parts ps))] ⟨[.cv (.int .u32 (sumW ps.flatten : Int))], []⟩ :=
  top39 rfl rfl [] trivial (w39 ps hn hb _ fun σ H h => ret1 rfl h)
def b58 : IC := (.seq (.reg [⟨(some 2), 0, none, .mv (.c .nilsl)⟩]) (.seq (.reg [⟨(some 4), 0, none, .mv (.t 0)⟩,
  ⟨(some 5), 1, none, .bsl 1 [(.t 4)]⟩,
  ⟨(some 6), 2, none, .call (.c (.fn 39)) [((.t 5), .view 1)]⟩,
  ⟨(some 3), 0, none, .mv (.t 6)⟩]) (.seq (.reg [⟨(some 7), 0, none, .mv (.t 3)⟩,
  ⟨(some 8), 0, none, .conv .u8 (.t 7)⟩,
  ⟨(some 9), 0, none, .mv (.t 3)⟩,
  ⟨(some 10), 0, none, .bin .shr (.t 9) (.c (.int .u64 8))⟩,
  ⟨(some 11), 0, none, .conv .u8 (.t 10)⟩,
  ⟨(some 12), 0, none, .mv (.t 3)⟩,
  ⟨(some 13), 0, none, .bin .shr (.t 12) (.c (.int .u64 16))⟩,
  ⟨(some 14), 0, none, .conv .u8 (.t 13)⟩,
  ⟨(some 15), 0, none, .mv (.t 3)⟩,
  ⟨(some 16), 0, none, .bin .shr (.t 15) (.c (.int .u64 24))⟩,
  ⟨(some 17), 0, none, .conv .u8 (.t 16)⟩,
  ⟨(some 18), 12, none, .bsl 1 [(.t 8), (.t 11), (.t 14), (.t 17)]⟩,
  ⟨(some 2), 0, none, .mv (.t 18)⟩]) .ret)))
def rs58 : List (Nat × Option Nat × Mode) := [(2, none, .move 1)]
theorem chk58 : chkC Try.prog Try.f58.ntmps b58 (Try.f58.body.getD .skip) = true := by decide +kernel
theorem top58 {args : List Arg} {out : Out} (ha : args.length.ble Try.f58.ntmps = true) (h8 : args.length.ble 8 = true) (mss : List (List (Option Nat))) (hb : backOK args out.back)
    (hw : rnC Try.prog b58 (topQ rs58 args mss out) (slotsOf (argsAV argBase args 0) 0) (argsOb argBase args 0)) : CW Try.prog 58 args out :=
  CW.of Try.func58 rs58 mss (by decide +kernel) (by decide +kernel) (by decide +kernel) ha h8 chk58 hb hw
def b63 : IC := (.seq (.reg [⟨(some 2), 0, none, .mv (.c (.int .i64 0))⟩,
  ⟨(some 3), 0, none, .mv (.c (.int .i64 0))⟩]) (.seq (.seq (.reg [⟨(some 5), 0, none, .mv (.t 0)⟩,
  ⟨(some 6), 0, none, .len false (.t 5)⟩,
  ⟨(some 7), 0, none, .bin .gtr (.t 6) (.c (.int .i64 262144))⟩]) (.cond (.t 7) (.seq (.reg [⟨(some 2), 0, none, .mv (.c (.int .i64 0))⟩,
  ⟨(some 3), 0, none, .mv (.c (.int .i64 2))⟩]) .ret) .skip)) (.seq (.seq (.reg [⟨(some 8), 0, none, .mv (.t 0)⟩,
  ⟨(some 9), 0, none, .len false (.t 8)⟩,
  ⟨(some 10), 0, none, .bin .lss (.t 9) (.c (.int .i64 10))⟩]) (.cond (.t 10) (.seq (.reg [⟨(some 11), 0, none, .mv (.t 0)⟩,
  ⟨(some 12), 0, none, .len false (.t 11)⟩,
  ⟨(some 2), 0, none, .mv (.t 12)⟩,
  ⟨(some 3), 0, none, .mv (.c (.int .i64 10))⟩]) .ret) .skip)) (.seq (.reg [⟨(some 13), 0, none, .mv (.t 0)⟩,
  ⟨(some 14), 0, none, .len false (.t 13)⟩,
  ⟨(some 15), 0, none, .bin .sub (.t 14) (.c (.int .i64 4))⟩,
  ⟨(some 4), 0, none, .mv (.t 15)⟩]) (.seq (.seq (.draw (.take 0 ⟨(some 16), 0, none, .mv (.t 0)⟩ (.take 1 ⟨(some 17), 0, none, .mv (.t 4)⟩ (.take 2 ⟨(some 18), 0, none, .slc (.t 16) none (some (.t 17)) none 1⟩ (.take 5 ⟨(some 21), 0, none, .mv (.t 0)⟩ (.take 6 ⟨(some 22), 0, none, .mv (.t 4)⟩ (.take 7 ⟨(some 23), 0, none, .slc (.t 21) (some (.t 22)) none none 1⟩ (.take 8 ⟨(some 24), 0, none, .b2s (.t 23)⟩ (.br 3 ⟨(some 19), 1, none, .call (.c (.fn 58)) [((.t 18), .view 1)]⟩ [true, true, true, true, false, true, true] (.take 4 ⟨(some 20), 0, none, .b2s (.t 19)⟩ (.take 9 ⟨(some 25), 0, none, .bin .neq (.t 20) (.t 24)⟩ .done)) .no))))))))) (.cond (.t 25) (.seq (.reg [⟨(some 26), 0, none, .mv (.t 4)⟩,
  ⟨(some 2), 0, none, .mv (.t 26)⟩,
  ⟨(some 3), 0, none, .mv (.c (.int .i64 13))⟩]) .ret) .skip)) (.seq (.seq (.reg [⟨(some 27), 0, none, .mv (.t 0)⟩,
  ⟨(some 28), 0, none, .slc (.t 27) none (some (.c (.int .i64 4))) none 1⟩,
  ⟨(some 29), 0, none, .b2s (.t 28)⟩,
  ⟨(some 30), 0, none, .bin .neq (.t 29) (.c (.str ⟨#[101, 110, 100, 111]⟩))⟩]) (.cond (.t 30) (.seq (.reg [⟨(some 2), 0, none, .mv (.c (.int .i64 0))⟩,
  ⟨(some 3), 0, none, .mv (.c (.int .i64 12))⟩]) .ret) .skip)) (.seq (.seq (.reg [⟨(some 31), 0, none, .mv (.t 0)⟩,
  ⟨(some 32), 0, none, .ia (.t 31) (.c (.int .i64 4)) 1⟩,
  ⟨(some 33), 0, none, .ld (.t 32) none⟩,
  ⟨(some 34), 0, none, .bin .neq (.t 33) (.c (.int .u8 1))⟩]) (.cond (.t 34) (.seq (.reg [⟨(some 2), 0, none, .mv (.c (.int .i64 4))⟩,
  ⟨(some 3), 0, none, .mv (.c (.int .i64 12))⟩]) .ret) .skip)) (.seq (.reg [⟨(some 2), 0, none, .mv (.c (.int .i64 0))⟩,
  ⟨(some 3), 0, none, .mv (.c (.int .i64 0))⟩]) .ret))))))))
def rs63 : List (Nat × Option Nat × Mode) := [(2, none, .plain), (3, none, .plain)]
theorem chk63 : chkC Try.prog Try.f63.ntmps b63 (Try.f63.body.getD .skip) = true := by decide +kernel
theorem top63 {args : List Arg} {out : Out} (ha : args.length.ble Try.f63.ntmps = true) (h8 : args.length.ble 8 = true) (mss : List (List (Option Nat))) (hb : backOK args out.back)
    (hw : rnC Try.prog b63 (topQ rs63 args mss out) (slotsOf (argsAV argBase args 0) 0) (argsOb argBase args 0)) : CW Try.prog 63 args out :=
  CW.of Try.func63 rs63 mss (by decide +kernel) (by decide +kernel) (by decide +kernel) ha h8 chk63 hb hw
def b83 : IC := (.seq (.reg [⟨(some 4), 0, none, .mv (.c (.int .i64 0))⟩]) (.seq (.seq (.reg [⟨(some 8), 0, none, .mv (.t 0)⟩,
  ⟨(some 9), 0, none, .nck (.t 8)⟩,
  ⟨(some 10), 0, none, .fa (.t 9) 2⟩,
  ⟨(some 11), 0, none, .ld (.t 10) none⟩,
  ⟨(some 12), 0, none, .bin .neq (.t 11) (.c (.int .i64 0))⟩]) (.cond (.t 12) (.seq (.reg [⟨(some 4), 0, none, .mv (.c (.int .i64 0))⟩]) .ret) .skip)) (.seq (.draw (.take 0 ⟨(some 14), 0, none, .mv (.t 0)⟩ (.take 1 ⟨(some 15), 0, none, .nck (.t 14)⟩ (.take 2 ⟨(some 16), 0, none, .fa (.t 15) 0⟩ (.take 3 ⟨(some 17), 0, none, .ld (.t 16) none⟩ (.take 4 ⟨(some 18), 0, none, .mv (.t 0)⟩ (.take 5 ⟨(some 19), 0, none, .nck (.t 18)⟩ (.take 6 ⟨(some 20), 0, none, .fa (.t 19) 1⟩ (.take 7 ⟨(some 21), 0, none, .ld (.t 20) none⟩ (.br 8 ⟨(some 22), 1, none, .call (.c (.fn 64)) [((.t 17), .view 1), ((.t 21), .plain)]⟩ [false, true, true, true, false, true, true, true] (.take 9 ⟨(some 13), 0, none, .mv (.t 22)⟩ (.take 10 ⟨(some 23), 0, none, .ext (.t 13) 0⟩ (.take 11 ⟨(some 24), 0, none, .ext (.t 13) 1⟩ (.take 12 ⟨(some 25), 0, none, .ext (.t 13) 2⟩ (.take 13 ⟨(some 5), 0, none, .mv (.t 23)⟩ (.take 14 ⟨(some 6), 0, none, .mv (.t 24)⟩ (.take 15 ⟨(some 7), 0, none, .mv (.t 25)⟩ .done))))))) .no)))))))))) (.seq (.block 0 (.seq (.reg [⟨(some 31), 0, none, .mv (.t 7)⟩,
  ⟨(some 32), 0, none, .bin .neq (.t 31) (.c (.int .i64 0))⟩,
  ⟨(some 30), 0, none, .mv (.t 32)⟩]) (.cond (.t 30) (.reg [⟨(some 33), 0, none, .mv (.t 0)⟩,
  ⟨(some 34), 0, none, .mv (.t 7)⟩,
  ⟨(some 35), 0, none, .nck (.t 33)⟩,
  ⟨(some 36), 0, none, .fa (.t 35) 2⟩,
  ⟨none, 0, none, .st (.t 36) (.t 34) none⟩]) (.seq (.reg [⟨(some 38), 0, none, .mv (.t 5)⟩,
  ⟨(some 39), 0, none, .mv (.t 1)⟩,
  ⟨(some 40), 0, none, .bin .gtr (.t 38) (.t 39)⟩,
  ⟨(some 37), 0, none, .mv (.t 40)⟩]) (.cond (.t 37) (.reg [⟨(some 41), 0, none, .mv (.t 0)⟩,
  ⟨(some 42), 0, none, .nck (.t 41)⟩,
  ⟨(some 43), 0, none, .fa (.t 42) 2⟩,
  ⟨none, 0, none, .st (.t 43) (.c (.int .i64 61)) none⟩]) (.reg [⟨(some 26), 0, none, .mv (.t 0)⟩,
  ⟨(some 27), 0, none, .mv (.t 6)⟩,
  ⟨(some 28), 0, none, .nck (.t 26)⟩,
  ⟨(some 29), 0, none, .fa (.t 28) 1⟩,
  ⟨none, 0, none, .st (.t 29) (.t 27) none⟩])))))) (.seq (.reg [⟨(some 44), 0, none, .mv (.t 5)⟩,
  ⟨(some 4), 0, none, .mv (.t 44)⟩]) .ret)))))
def rs83 : List (Nat × Option Nat × Mode) := [(4, none, .plain)]
theorem chk83 : chkC Try.prog Try.f83.ntmps b83 (Try.f83.body.getD .skip) = true := by decide +kernel
theorem top83 {args : List Arg} {out : Out} (ha : args.length.ble Try.f83.ntmps = true) (h8 : args.length.ble 8 = true) (mss : List (List (Option Nat))) (hb : backOK args out.back)
    (hw : rnC Try.prog b83 (topQ rs83 args mss out) (slotsOf (argsAV argBase args 0) 0) (argsOb argBase args 0)) : CW Try.prog 83 args out :=
  CW.of Try.func83 rs83 mss (by decide +kernel) (by decide +kernel) (by decide +kernel) ha h8 chk83 hb hw
def b95 : IC := (.seq (.reg [⟨(some 2), 0, none, .mv (.c (.str ⟨#[]⟩))⟩]) (.seq (.seq (.reg [⟨(some 6), 0, none, .mv (.t 0)⟩,
  ⟨(some 7), 0, none, .nck (.t 6)⟩,
  ⟨(some 8), 0, none, .fa (.t 7) 2⟩,
  ⟨(some 9), 0, none, .ld (.t 8) none⟩,
  ⟨(some 10), 0, none, .bin .neq (.t 9) (.c (.int .i64 0))⟩]) (.cond (.t 10) (.seq (.reg [⟨(some 2), 0, none, .mv (.c (.str ⟨#[]⟩))⟩]) .ret) .skip)) (.seq (.draw (.take 0 ⟨(some 12), 0, none, .mv (.t 0)⟩ (.take 1 ⟨(some 13), 0, none, .nck (.t 12)⟩ (.take 2 ⟨(some 14), 0, none, .fa (.t 13) 0⟩ (.take 3 ⟨(some 15), 0, none, .ld (.t 14) none⟩ (.take 4 ⟨(some 16), 0, none, .mv (.t 0)⟩ (.take 5 ⟨(some 17), 0, none, .nck (.t 16)⟩ (.take 6 ⟨(some 18), 0, none, .fa (.t 17) 1⟩ (.take 7 ⟨(some 19), 0, none, .ld (.t 18) none⟩ (.br 8 ⟨(some 20), 1, none, .call (.c (.fn 124)) [((.t 15), .view 1), ((.t 19), .plain), ((.c (.int .i64 4)), .plain)]⟩ [false, true, true, true, false, true, true, true] (.take 9 ⟨(some 11), 0, none, .mv (.t 20)⟩ (.take 10 ⟨(some 21), 0, none, .ext (.t 11) 0⟩ (.take 11 ⟨(some 22), 0, none, .ext (.t 11) 1⟩ (.take 12 ⟨(some 23), 0, none, .ext (.t 11) 2⟩ (.take 13 ⟨(some 3), 0, none, .mv (.t 21)⟩ (.take 14 ⟨(some 4), 0, none, .mv (.t 22)⟩ (.take 15 ⟨(some 5), 0, none, .mv (.t 23)⟩ .done))))))) .no)))))))))) (.seq (.reg [⟨(some 24), 0, none, .mv (.t 0)⟩,
  ⟨(some 25), 0, none, .mv (.t 5)⟩,
  ⟨(some 26), 0, none, .nck (.t 24)⟩,
  ⟨(some 27), 0, none, .fa (.t 26) 2⟩,
  ⟨none, 0, none, .st (.t 27) (.t 25) none⟩]) (.seq (.seq (.reg [⟨(some 28), 0, none, .mv (.t 5)⟩,
  ⟨(some 29), 0, none, .bin .eql (.t 28) (.c (.int .i64 0))⟩]) (.cond (.t 29) (.reg [⟨(some 30), 0, none, .mv (.t 0)⟩,
  ⟨(some 31), 0, none, .mv (.t 4)⟩,
  ⟨(some 32), 0, none, .nck (.t 30)⟩,
  ⟨(some 33), 0, none, .fa (.t 32) 1⟩,
  ⟨none, 0, none, .st (.t 33) (.t 31) none⟩]) .skip)) (.seq (.reg [⟨(some 34), 0, none, .mv (.t 3)⟩,
  ⟨(some 2), 0, none, .mv (.t 34)⟩]) .ret))))))
def rs95 : List (Nat × Option Nat × Mode) := [(2, none, .plain)]
theorem chk95 : chkC Try.prog Try.f95.ntmps b95 (Try.f95.body.getD .skip) = true := by decide +kernel
theorem top95 {args : List Arg} {out : Out} (ha : args.length.ble Try.f95.ntmps = true) (h8 : args.length.ble 8 = true) (mss : List (List (Option Nat))) (hb : backOK args out.back)
    (hw : rnC Try.prog b95 (topQ rs95 args mss out) (slotsOf (argsAV argBase args 0) 0) (argsOb argBase args 0)) : CW Try.prog 95 args out :=
  CW.of Try.func95 rs95 mss (by decide +kernel) (by decide +kernel) (by decide +kernel) ha h8 chk95 hb hw
def b101 : IC := (.seq (.reg [⟨(some 2), 0, none, .mv (.c (.flt 0))⟩]) (.seq (.seq (.reg [⟨(some 6), 0, none, .mv (.t 0)⟩,
  ⟨(some 7), 0, none, .nck (.t 6)⟩,
  ⟨(some 8), 0, none, .fa (.t 7) 2⟩,
  ⟨(some 9), 0, none, .ld (.t 8) none⟩,
  ⟨(some 10), 0, none, .bin .neq (.t 9) (.c (.int .i64 0))⟩]) (.cond (.t 10) (.seq (.reg [⟨(some 2), 0, none, .mv (.c (.flt 0))⟩]) .ret) .skip)) (.seq (.draw (.take 0 ⟨(some 12), 0, none, .mv (.t 0)⟩ (.take 1 ⟨(some 13), 0, none, .nck (.t 12)⟩ (.take 2 ⟨(some 14), 0, none, .fa (.t 13) 0⟩ (.take 3 ⟨(some 15), 0, none, .ld (.t 14) none⟩ (.take 4 ⟨(some 16), 0, none, .mv (.t 0)⟩ (.take 5 ⟨(some 17), 0, none, .nck (.t 16)⟩ (.take 6 ⟨(some 18), 0, none, .fa (.t 17) 1⟩ (.take 7 ⟨(some 19), 0, none, .ld (.t 18) none⟩ (.br 8 ⟨(some 20), 1, none, .call (.c (.fn 125)) [((.t 15), .view 1), ((.t 19), .plain)]⟩ [false, true, true, true, false, true, true, true] (.take 9 ⟨(some 11), 0, none, .mv (.t 20)⟩ (.take 10 ⟨(some 21), 0, none, .ext (.t 11) 0⟩ (.take 11 ⟨(some 22), 0, none, .ext (.t 11) 1⟩ (.take 12 ⟨(some 23), 0, none, .ext (.t 11) 2⟩ (.take 13 ⟨(some 3), 0, none, .mv (.t 21)⟩ (.take 14 ⟨(some 4), 0, none, .mv (.t 22)⟩ (.take 15 ⟨(some 5), 0, none, .mv (.t 23)⟩ .done))))))) .no)))))))))) (.seq (.reg [⟨(some 24), 0, none, .mv (.t 0)⟩,
  ⟨(some 25), 0, none, .mv (.t 5)⟩,
  ⟨(some 26), 0, none, .nck (.t 24)⟩,
  ⟨(some 27), 0, none, .fa (.t 26) 2⟩,
  ⟨none, 0, none, .st (.t 27) (.t 25) none⟩]) (.seq (.seq (.reg [⟨(some 28), 0, none, .mv (.t 5)⟩,
  ⟨(some 29), 0, none, .bin .eql (.t 28) (.c (.int .i64 0))⟩]) (.cond (.t 29) (.reg [⟨(some 30), 0, none, .mv (.t 0)⟩,
  ⟨(some 31), 0, none, .mv (.t 4)⟩,
  ⟨(some 32), 0, none, .nck (.t 30)⟩,
  ⟨(some 33), 0, none, .fa (.t 32) 1⟩,
  ⟨none, 0, none, .st (.t 33) (.t 31) none⟩]) .skip)) (.seq (.reg [⟨(some 34), 0, none, .mv (.t 3)⟩,
  ⟨(some 2), 0, none, .mv (.t 34)⟩]) .ret))))))
def rs101 : List (Nat × Option Nat × Mode) := [(2, none, .plain)]
theorem chk101 : chkC Try.prog Try.f101.ntmps b101 (Try.f101.body.getD .skip) = true := by decide +kernel
theorem top101 {args : List Arg} {out : Out} (ha : args.length.ble Try.f101.ntmps = true) (h8 : args.length.ble 8 = true) (mss : List (List (Option Nat))) (hb : backOK args out.back)
    (hw : rnC Try.prog b101 (topQ rs101 args mss out) (slotsOf (argsAV argBase args 0) 0) (argsOb argBase args 0)) : CW Try.prog 101 args out :=
  CW.of Try.func101 rs101 mss (by decide +kernel) (by decide +kernel) (by decide +kernel) ha h8 chk101 hb hw
def sum4 (s : Nat) : List UInt8 := [by8 (s : Int), by8 ((s / 256 : Nat) : Int), by8 ((s / 65536 : Nat) : Int), by8 ((s / 16777216 : Nat) : Int)]
theorem w58 (b : List UInt8) (hb : b.length < 1000000000000000) (Q : Ex → Slots → LH → Prop) (hQ : ∀ σ H, OwnAt 1 (bys (sum4 (sumW b))) (Slots.get σ 2) H → Q .ret σ H) : rnC Try.prog b58 Q [(0, .c (.sl 1 (bys b)))] [] := by
  unfold b58
  simp only [go_sem, ↓reduceIte, Nat.reduceEqDiff, Nat.reduceMul, Nat.reduceAdd, Nat.reduceDiv, Nat.reduceSub, Nat.reduceLT, Nat.reduceLeDiff, Int.reduceLE, Int.reduceLT, Int.reduceToNat, Int.reduceEq]
  have c39 : CW Try.prog 39 [.cv (.sl 1 [.sl 1 (bys b)])] ⟨[.cv (.int .u32 (sumW [b].flatten : Int))], []⟩ := cw39 [b] (by simp) (by simpa using hb)
  rw [show [b].flatten = b by simp] at c39
  refine ⟨⟨rfl, by simp [CV.cells, CV.one]⟩, ?_⟩
  refine callK_V _ (fun _ => c39) (by simp only [go_sem, ↓reduceIte, Nat.reduceEqDiff, Nat.reduceMul, Nat.reduceAdd, Nat.reduceDiv, Nat.reduceSub, Nat.reduceLT, Nat.reduceLeDiff, Int.reduceLE, Int.reduceLT, Int.reduceToNat, Int.reduceEq]) rfl (by simp only [go_sem, ↓reduceIte, Nat.reduceEqDiff, Nat.reduceMul, Nat.reduceAdd, Nat.reduceDiv, Nat.reduceSub, Nat.reduceLT, Nat.reduceLeDiff, Int.reduceLE, Int.reduceLT, Int.reduceToNat, Int.reduceEq]) rfl rfl ?_
  simp only [go_sem, ↓reduceIte, Nat.reduceEqDiff, Nat.reduceMul, Nat.reduceAdd, Nat.reduceDiv, Nat.reduceSub, Nat.reduceLT, Nat.reduceLeDiff, Int.reduceLE, Int.reduceLT, Int.reduceToNat, Int.reduceEq]
  repeat (refine ⟨by (first | omega | (intro h1 h2; exact ⟨h1, h2⟩) | (intro h1; omega) | (intro h1; exact h1) | trivial), ?_⟩)
  refine hQ _ _ (own_at rfl rfl ?_)
  simp only [go_sem, ↓reduceIte, Nat.reduceEqDiff, Nat.reduceMul, Nat.reduceAdd, Nat.reduceDiv, Nat.reduceSub, Nat.reduceLT, Nat.reduceLeDiff, Int.reduceLE, Int.reduceLT, Int.reduceToNat, Int.reduceEq]
  simp only [show (2 : Int) ^ min 8 32 = ((256 : Nat) : Int) from rfl, show (2 : Int) ^ min 16 32 = ((65536 : Nat) : Int) from rfl, show (2 : Int) ^ min 24 32 = ((16777216 : Nat) : Int) from rfl, fdiv_nat, by8_cv]
  rfl
theorem cw58 (b : List UInt8) (hb : b.length < 1000000000000000) : CW Try.prog 58 [.cv (.sl 1 (bys b))] ⟨[.own 1 (bys (sum4 (sumW b)))], []⟩ :=
  top58 rfl rfl [] trivial (w58 b hb _ fun σ H h => retO rfl h)
theorem strOf_list (l : List UInt8) : (strOf l).data.toList = l := by simp [strOf]
attribute [go_sem] strOf_list mkStr_bys
def headF (b : List UInt8) : Int × Int :=
  if 262144 < b.length then (0, 2) else
  if b.length < 10 then (b.length, 10) else
  if sum4 (sumW (b.take (b.length - 4))) ≠ b.drop (b.length - 4) then (((b.length - 4 : Nat) : Int), 13) else
  if b.take 4 ≠ [101, 110, 100, 111] then (0, 12) else
  if b.getD 4 0 ≠ 1 then (4, 12) else (0, 0)
theorem w63 (b : List UInt8) (hb : b.length < 1000000000000000) (Q : Ex → Slots → LH → Prop) (hQ : ∀ σ H, Slots.get σ 2 = .c (.int .i64 ((headF b).1)) → Slots.get σ 3 = .c (.int .i64 ((headF b).2)) → Q .ret σ H) : rnC Try.prog b63 Q [(0, .c (.sl 1 (bys b)))] [] := by
  unfold b63
  simp only [go_sem, ↓reduceIte, Nat.reduceEqDiff, Nat.reduceMul, Nat.reduceAdd, Nat.reduceDiv, Nat.reduceSub, Nat.reduceLT, Nat.reduceLeDiff, Int.reduceLE, Int.reduceLT, Int.reduceToNat, Int.reduceEq]
  unfold headF at hQ
  refine ⟨fun h => ?_, fun h => ?_⟩
  · rw [if_pos (by omega)] at hQ; exact hQ _ _ rfl rfl
  rw [if_neg (by omega)] at hQ
  refine ⟨fun h2 => ?_, fun h2 => ?_⟩
  · rw [if_pos (by omega)] at hQ; exact hQ _ _ rfl rfl
  rw [if_neg (by omega)] at hQ
  have e1 : IntKind.i64.wrap ((b.length : Int) - 4) = ((b.length - 4 : Nat) : Int) := by rw [wrap_i64]; omega
  rw [e1]
  have e2 : (((b.length - 4 : Nat) : Int)).toNat = b.length - 4 := Int.toNat_natCast _
  have e3 : List.take (b.length - (b.length - 4)) (List.drop (b.length - 4) (bys b)) = bys (b.drop (b.length - 4)) := by
    rw [bys_cut, List.take_of_length_le (by rw [List.length_drop]; omega)]
  have e4 : List.take (b.length - 4 - 0) (bys b) = bys (b.take (b.length - 4)) := by rw [Nat.sub_zero, ← List.drop_zero (l := bys b), bys_cut]; rfl
  rw [e2, e3, e4]
  refine ⟨by omega, by omega, bys_isU8 _, ?_⟩
  refine callK_O 1 (bys (sum4 (sumW (b.take (b.length - 4))))) (fun _ => cw58 (b.take (b.length - 4)) (by rw [List.length_take]; omega)) (by simp only [go_sem, ↓reduceIte, Nat.reduceEqDiff, Nat.reduceMul, Nat.reduceAdd, Nat.reduceDiv, Nat.reduceSub, Nat.reduceLT, Nat.reduceLeDiff, Int.reduceLE, Int.reduceLT, Int.reduceToNat, Int.reduceEq]) rfl rfl ?_
  simp only [go_sem, ↓reduceIte, Nat.reduceEqDiff, Nat.reduceMul, Nat.reduceAdd, Nat.reduceDiv, Nat.reduceSub, Nat.reduceLT, Nat.reduceLeDiff, Int.reduceLE, Int.reduceLT, Int.reduceToNat, Int.reduceEq]
  repeat (refine ⟨by (first | omega | (intro h1 h2; exact ⟨h1, h2⟩) | (intro h1; omega) | (intro h1; exact h1) | trivial), ?_⟩)
  have e5 : List.take (sum4 (sumW (b.take (b.length - 4)))).length (bys (sum4 (sumW (b.take (b.length - 4))))) = bys (sum4 (sumW (b.take (b.length - 4)))) := bys_take _
  have e6 : List.take 4 (bys b) = bys (b.take 4) := by rw [← List.drop_zero (l := bys b), bys_cut]; rfl
  have e7 : (bys b).getD 4 .undef = .int .u8 ((b.getD 4 0).toNat : Int) := by
    rw [bys_at (show 4 < b.length by omega), List.getD_eq_getElem?_getD, List.getElem?_eq_getElem (show 4 < b.length by omega)]; rfl
  rw [e3, e5, e6]
  simp only [go_sem, ↓reduceIte, Nat.reduceEqDiff, Nat.reduceMul, Nat.reduceAdd, Nat.reduceDiv, Nat.reduceSub, Nat.reduceLT, Nat.reduceLeDiff, Int.reduceLE, Int.reduceLT, Int.reduceToNat, Int.reduceEq, e7]
  refine ⟨⟨bys_isU8 _, by omega⟩, bys_isU8 _, fun h3 => ?_, fun h3 => ⟨by omega, bys_isU8 _, fun h4 => ?_, fun h4 => ⟨by omega, fun h5 => ?_, fun h5 => ?_⟩⟩⟩
  · rw [if_pos h3] at hQ
    exact hQ _ _ rfl rfl
  · rw [if_neg (by simpa using h3), if_pos h4] at hQ
    exact hQ _ _ rfl rfl
  · rw [if_neg (by simpa using h3), if_neg (by simpa using h4), if_pos (fun h => h5 (by rw [h]; rfl))] at hQ
    exact hQ _ _ rfl rfl
  · rw [if_neg (by simpa using h3), if_neg (by simpa using h4), if_neg (fun h => h (UInt8.toNat_inj.1 (by show _ = 1; omega)))] at hQ
    exact hQ _ _ rfl rfl
theorem cw63 (b : List UInt8) (hb : b.length < 1000000000000000) : CW Try.prog 63 [.cv (.sl 1 (bys b))] ⟨[.cv (.int .i64 ((headF b).1)), .cv (.int .i64 ((headF b).2))], []⟩ :=
  top63 rfl rfl [] trivial (w63 b hb _ fun σ H h h' => ret2 rfl h h')
def rdA (b : List UInt8) (s : Int × Int) : Arg := .obj [.cv (.sl 1 (bys b)), .cv (.int .i64 s.1), .cv (.int .i64 s.2)]
def rdB (b : List UInt8) (s : Int × Int) : List OC := [.cv (.sl 1 (bys b)), .cv (.int .i64 s.1), .cv (.int .i64 s.2)]
def rdH (b : List UInt8) (s : Int × Int) : LObj := .obj [.c (.sl 1 (bys b)), .c (.int .i64 s.1), .c (.int .i64 s.2)]
theorem retP {t : Nat} {v : CV} {b : List UInt8} {s s' : Int × Int} {σ : Slots} {H : LH} (h : Slots.get σ t = .c v) (ho : LH.get H 3000000 = some (rdH b s')) :
    topQ [(t, none, .plain)] [rdA b s] [[none, none, none]] ⟨[.cv v], [rdB b s']⟩ .ret σ H := by
  show retW σ H _ _ _ _
  unfold retW
  simp only [retVals, h, argsW, rdA, backL, argBase, Nat.mul_zero, Nat.add_zero, ho, rdH, argW, ungW, List.length_cons, List.length_nil, cellsW, true_and, List.append_nil, List.nil_append, backArgs, rdB, List.map_nil, List.map_cons]
  exact ⟨by decide, by simp [OC.arg]⟩
theorem retP1 {t : Nat} {v x : CV} {b : List UInt8} {s s' : Int × Int} {σ : Slots} {H : LH} (h : Slots.get σ t = .c v) (ho : LH.get H 3000000 = some (rdH b s')) :
    topQ [(t, none, .plain)] [rdA b s, .cv x] [[none, none, none]] ⟨[.cv v], [rdB b s']⟩ .ret σ H := by
  show retW σ H _ _ _ _
  unfold retW
  simp only [retVals, h, argsW, rdA, backL, argBase, Nat.mul_zero, Nat.add_zero, ho, rdH, argW, ungW, List.length_cons, List.length_nil, cellsW, true_and, List.append_nil, List.nil_append, backArgs, rdB, List.map_nil, List.map_cons]
  exact ⟨by decide, by simp [OC.arg]⟩
def numP (b : List UInt8) (most : Int) (s : Int × Int) : Int × Int × Int :=
  if s.2 ≠ 0 then (0, s) else
  if (rdU b s.1).2.2 ≠ 0 then ((rdU b s.1).1, s.1, (rdU b s.1).2.2) else
  if most < (rdU b s.1).1 then ((rdU b s.1).1, s.1, 61) else ((rdU b s.1).1, (rdU b s.1).2.1, 0)
theorem w83 (b : List UInt8) (most : Int) (s : Int × Int) (hb : b.length < 1000000000000000) (hs : 0 ≤ s.1 ∧ s.1 ≤ b.length) (Q : Ex → Slots → LH → Prop)
    (hQ : ∀ σ H, Slots.get σ 4 = .c (.int .i64 (numP b most s).1) → LH.get H 3000000 = some (rdH b (numP b most s).2) → Q .ret σ H) :
    rnC Try.prog b83 Q [(0, .ref 3000000 0), (1, .c (.int .i64 most))] [(3000000, rdH b s)] := by
  obtain ⟨a, e⟩ := s
  simp only at hs
  unfold b83 rdH
  simp only [go_sem, ↓reduceIte, Nat.reduceEqDiff, Nat.reduceMul, Nat.reduceAdd, Nat.reduceDiv, Nat.reduceSub, Nat.reduceLT, Nat.reduceLeDiff, Int.reduceLE, Int.reduceLT, Int.reduceToNat, Int.reduceEq]
  unfold numP at hQ
  simp only at hQ
  refine ⟨fun h => ?_, fun h => ?_⟩
  · rw [if_pos h] at hQ
    exact hQ _ _ rfl rfl
  rw [if_neg (by simpa using h)] at hQ
  subst h
  refine callK_3 _ _ _ (fun _ => cw64 b a hb (by omega)) (by simp only [go_sem, ↓reduceIte, Nat.reduceEqDiff, Nat.reduceMul, Nat.reduceAdd, Nat.reduceDiv, Nat.reduceSub, Nat.reduceLT, Nat.reduceLeDiff, Int.reduceLE, Int.reduceLT, Int.reduceToNat, Int.reduceEq]) rfl rfl ?_
  simp only [go_sem, ↓reduceIte, Nat.reduceEqDiff, Nat.reduceMul, Nat.reduceAdd, Nat.reduceDiv, Nat.reduceSub, Nat.reduceLT, Nat.reduceLeDiff, Int.reduceLE, Int.reduceLT, Int.reduceToNat, Int.reduceEq]
  repeat (refine ⟨by (first | omega | (intro h1 h2; exact ⟨h1, h2⟩) | (intro h1; omega) | (intro h1; exact h1) | trivial), ?_⟩)
  refine ⟨fun h => ?_, fun h => ⟨fun h2 => ?_, fun h2 => ?_⟩⟩
  · rw [if_pos h] at hQ
    exact hQ _ _ rfl rfl
  · rw [if_neg (by simpa using h), if_pos h2] at hQ
    exact hQ _ _ rfl rfl
  · rw [if_neg (by simpa using h), if_neg (by omega)] at hQ
    exact hQ _ _ rfl rfl
theorem cw83 (b : List UInt8) (most : Int) (s : Int × Int) (hb : b.length < 1000000000000000) (hs : 0 ≤ s.1 ∧ s.1 ≤ b.length) :
    CW Try.prog 83 [rdA b s, .cv (.int .i64 most)] ⟨[.cv (.int .i64 (numP b most s).1)], [rdB b (numP b most s).2]⟩ :=
  top83 rfl rfl [[none, none, none]] ⟨rfl, trivial⟩ (w83 b most s hb hs _ fun σ H h ho => retP1 h ho)
def textP (b : List UInt8) (s : Int × Int) : ByteArray × Int × Int :=
  if s.2 ≠ 0 then (⟨#[]⟩, s) else ((rdT b s.1 4).1, if (rdT b s.1 4).2.2 = 0 then (rdT b s.1 4).2.1 else s.1, (rdT b s.1 4).2.2)
theorem w95 (b : List UInt8) (s : Int × Int) (hb : b.length < 1000000000000000) (hs : 0 ≤ s.1 ∧ s.1 ≤ b.length) (Q : Ex → Slots → LH → Prop)
    (hQ : ∀ σ H, Slots.get σ 2 = .c (.str (textP b s).1) → LH.get H 3000000 = some (rdH b (textP b s).2) → Q .ret σ H) :
    rnC Try.prog b95 Q [(0, .ref 3000000 0)] [(3000000, rdH b s)] := by
  obtain ⟨a, e⟩ := s
  simp only at hs
  unfold b95 rdH
  simp only [go_sem, ↓reduceIte, Nat.reduceEqDiff, Nat.reduceMul, Nat.reduceAdd, Nat.reduceDiv, Nat.reduceSub, Nat.reduceLT, Nat.reduceLeDiff, Int.reduceLE, Int.reduceLT, Int.reduceToNat, Int.reduceEq]
  unfold textP at hQ
  simp only at hQ
  refine ⟨fun h => ?_, fun h => ?_⟩
  · rw [if_pos h] at hQ
    exact hQ _ _ rfl rfl
  rw [if_neg (by simpa using h)] at hQ
  subst h
  refine callK_3 _ _ _ (fun _ => cw124 b a 4 hb (by omega)) (by simp only [go_sem, ↓reduceIte, Nat.reduceEqDiff, Nat.reduceMul, Nat.reduceAdd, Nat.reduceDiv, Nat.reduceSub, Nat.reduceLT, Nat.reduceLeDiff, Int.reduceLE, Int.reduceLT, Int.reduceToNat, Int.reduceEq]) rfl rfl ?_
  simp only [go_sem, ↓reduceIte, Nat.reduceEqDiff, Nat.reduceMul, Nat.reduceAdd, Nat.reduceDiv, Nat.reduceSub, Nat.reduceLT, Nat.reduceLeDiff, Int.reduceLE, Int.reduceLT, Int.reduceToNat, Int.reduceEq]
  repeat (refine ⟨by (first | omega | (intro h1 h2; exact ⟨h1, h2⟩) | (intro h1; omega) | (intro h1; exact h1) | trivial), ?_⟩)
  refine ⟨fun h => ?_, fun h => ?_⟩
  · rw [if_pos h] at hQ
    exact hQ _ _ rfl rfl
  · rw [if_neg (by simpa using h)] at hQ
    exact hQ _ _ rfl rfl
theorem cw95 (b : List UInt8) (s : Int × Int) (hb : b.length < 1000000000000000) (hs : 0 ≤ s.1 ∧ s.1 ≤ b.length) :
    CW Try.prog 95 [rdA b s] ⟨[.cv (.str (textP b s).1)], [rdB b (textP b s).2]⟩ :=
  top95 rfl rfl [[none, none, none]] ⟨rfl, trivial⟩ (w95 b s hb hs _ fun σ H h ho => retP h ho)
def fltP (b : List UInt8) (s : Int × Int) : Nat × Int × Int :=
  if s.2 ≠ 0 then (0, s) else ((rdF b s.1).1, if (rdF b s.1).2.2 = 0 then (rdF b s.1).2.1 else s.1, (rdF b s.1).2.2)
theorem w101 (b : List UInt8) (s : Int × Int) (hb : b.length < 1000000000000000) (hs : 0 ≤ s.1 ∧ s.1 ≤ b.length) (Q : Ex → Slots → LH → Prop)
    (hQ : ∀ σ H, Slots.get σ 2 = .c (.flt (fltP b s).1) → LH.get H 3000000 = some (rdH b (fltP b s).2) → Q .ret σ H) :
    rnC Try.prog b101 Q [(0, .ref 3000000 0)] [(3000000, rdH b s)] := by
  obtain ⟨a, e⟩ := s
  simp only at hs
  unfold b101 rdH
  simp only [go_sem, ↓reduceIte, Nat.reduceEqDiff, Nat.reduceMul, Nat.reduceAdd, Nat.reduceDiv, Nat.reduceSub, Nat.reduceLT, Nat.reduceLeDiff, Int.reduceLE, Int.reduceLT, Int.reduceToNat, Int.reduceEq]
  unfold fltP at hQ
  simp only at hQ
  refine ⟨fun h => ?_, fun h => ?_⟩
  · rw [if_pos h] at hQ
    exact hQ _ _ rfl rfl
  rw [if_neg (by simpa using h)] at hQ
  subst h
  refine callK_3 _ _ _ (fun _ => cw125 b a hb (by omega)) (by simp only [go_sem, ↓reduceIte, Nat.reduceEqDiff, Nat.reduceMul, Nat.reduceAdd, Nat.reduceDiv, Nat.reduceSub, Nat.reduceLT, Nat.reduceLeDiff, Int.reduceLE, Int.reduceLT, Int.reduceToNat, Int.reduceEq]) rfl rfl ?_
  simp only [go_sem, ↓reduceIte, Nat.reduceEqDiff, Nat.reduceMul, Nat.reduceAdd, Nat.reduceDiv, Nat.reduceSub, Nat.reduceLT, Nat.reduceLeDiff, Int.reduceLE, Int.reduceLT, Int.reduceToNat, Int.reduceEq]
  repeat (refine ⟨by (first | omega | (intro h1 h2; exact ⟨h1, h2⟩) | (intro h1; omega) | (intro h1; exact h1) | trivial), ?_⟩)
  refine ⟨fun h => ?_, fun h => ?_⟩
  · rw [if_pos h] at hQ
    exact hQ _ _ rfl rfl
  · rw [if_neg (by simpa using h)] at hQ
    exact hQ _ _ rfl rfl
theorem cw101 (b : List UInt8) (s : Int × Int) (hb : b.length < 1000000000000000) (hs : 0 ≤ s.1 ∧ s.1 ≤ b.length) :
    CW Try.prog 101 [rdA b s] ⟨[.cv (.flt (fltP b s).1)], [rdB b (fltP b s).2]⟩ :=
  top101 rfl rfl [[none, none, none]] ⟨rfl, trivial⟩ (w101 b s hb hs _ fun σ H h ho => retP h ho)
def b82 : IC := (.seq (.reg [⟨(some 4), 0, none, .mv (.t 1)⟩,
  ⟨(some 5), 0, none, .mv (.t 0)⟩,
  ⟨(some 6), 1, none, .call (.c (.fn 83)) [((.t 5), .ptr [none, none, none]), ((.c (.int .i64 1114111)), .plain)]⟩,
  ⟨(some 7), 0, none, .nck (.t 4)⟩,
  ⟨(some 8), 0, none, .fa (.t 7) 1⟩,
  ⟨none, 0, none, .st (.t 8) (.t 6) none⟩]) (.reg [⟨(some 9), 0, none, .mv (.t 1)⟩,
  ⟨(some 10), 0, none, .mv (.t 1)⟩,
  ⟨(some 11), 0, none, .nck (.t 10)⟩,
  ⟨(some 12), 0, none, .fa (.t 11) 1⟩,
  ⟨(some 13), 0, none, .ld (.t 12) none⟩,
  ⟨(some 14), 0, none, .nck (.t 9)⟩,
  ⟨(some 15), 0, none, .fa (.t 14) 2⟩,
  ⟨none, 0, none, .st (.t 15) (.t 13) none⟩]))
def rs82 : List (Nat × Option Nat × Mode) := []
theorem chk82 : chkC Try.prog Try.f82.ntmps b82 (Try.f82.body.getD .skip) = true := by decide +kernel
theorem top82 {args : List Arg} {out : Out} (ha : args.length.ble Try.f82.ntmps = true) (h8 : args.length.ble 8 = true) (mss : List (List (Option Nat))) (hb : backOK args out.back)
    (hw : rnC Try.prog b82 (topQ rs82 args mss out) (slotsOf (argsAV argBase args 0) 0) (argsOb argBase args 0)) : CW Try.prog 82 args out :=
  CW.of Try.func82 rs82 mss (by decide +kernel) (by decide +kernel) (by decide +kernel) ha h8 chk82 hb hw
def b85 : IC := (.draw (.take 0 ⟨(some 4), 0, none, .mv (.t 1)⟩ (.take 1 ⟨(some 5), 0, none, .mv (.t 1)⟩ (.take 2 ⟨(some 6), 0, none, .nck (.t 5)⟩ (.take 3 ⟨(some 7), 0, none, .fa (.t 6) 1⟩ (.take 4 ⟨(some 8), 0, none, .ld (.t 7) none⟩ (.take 5 ⟨(some 9), 0, none, .mv (.t 0)⟩ (.br 6 ⟨(some 10), 1, none, .call (.c (.fn 83)) [((.t 9), .ptr [none, none, none]), ((.c (.int .i64 1114111)), .plain)]⟩ [false, true, true, true, true, true] (.take 7 ⟨(some 11), 0, none, .bin .add (.t 8) (.t 10)⟩ (.take 8 ⟨(some 12), 0, none, .nck (.t 4)⟩ (.take 9 ⟨(some 13), 0, none, .fa (.t 12) 2⟩ (.br 10 ⟨none, 0, none, .st (.t 13) (.t 11) none⟩ [false, true, false, false, false, false, false, false] .done .no)))) .no))))))))
def rs85 : List (Nat × Option Nat × Mode) := []
theorem chk85 : chkC Try.prog Try.f85.ntmps b85 (Try.f85.body.getD .skip) = true := by decide +kernel
theorem top85 {args : List Arg} {out : Out} (ha : args.length.ble Try.f85.ntmps = true) (h8 : args.length.ble 8 = true) (mss : List (List (Option Nat))) (hb : backOK args out.back)
    (hw : rnC Try.prog b85 (topQ rs85 args mss out) (slotsOf (argsAV argBase args 0) 0) (argsOb argBase args 0)) : CW Try.prog 85 args out :=
  CW.of Try.func85 rs85 mss (by decide +kernel) (by decide +kernel) (by decide +kernel) ha h8 chk85 hb hw
def b87 : IC := (.reg [⟨(some 4), 0, none, .mv (.t 1)⟩,
  ⟨(some 5), 0, none, .mv (.t 0)⟩,
  ⟨(some 6), 1, none, .call (.c (.fn 83)) [((.t 5), .ptr [none, none, none]), ((.c (.int .i64 1114111)), .plain)]⟩,
  ⟨(some 7), 0, none, .nck (.t 4)⟩,
  ⟨(some 8), 0, none, .fa (.t 7) 3⟩,
  ⟨none, 0, none, .st (.t 8) (.t 6) none⟩])
def rs87 : List (Nat × Option Nat × Mode) := []
theorem chk87 : chkC Try.prog Try.f87.ntmps b87 (Try.f87.body.getD .skip) = true := by decide +kernel
theorem top87 {args : List Arg} {out : Out} (ha : args.length.ble Try.f87.ntmps = true) (h8 : args.length.ble 8 = true) (mss : List (List (Option Nat))) (hb : backOK args out.back)
    (hw : rnC Try.prog b87 (topQ rs87 args mss out) (slotsOf (argsAV argBase args 0) 0) (argsOb argBase args 0)) : CW Try.prog 87 args out :=
  CW.of Try.func87 rs87 mss (by decide +kernel) (by decide +kernel) (by decide +kernel) ha h8 chk87 hb hw
def b89 : IC := (.reg [⟨(some 4), 0, none, .mv (.t 1)⟩,
  ⟨(some 5), 0, none, .mv (.t 0)⟩,
  ⟨(some 6), 1, none, .call (.c (.fn 83)) [((.t 5), .ptr [none, none, none]), ((.c (.int .i64 1114111)), .plain)]⟩,
  ⟨(some 7), 0, none, .conv .i32 (.t 6)⟩,
  ⟨(some 8), 11, none, .bsl 1 [(.t 7)]⟩,
  ⟨(some 9), 0, none, .nck (.t 4)⟩,
  ⟨(some 10), 0, none, .fa (.t 9) 4⟩,
  ⟨none, 0, none, .st (.t 10) (.t 8) none⟩])
def rs89 : List (Nat × Option Nat × Mode) := []
theorem chk89 : chkC Try.prog Try.f89.ntmps b89 (Try.f89.body.getD .skip) = true := by decide +kernel
theorem top89 {args : List Arg} {out : Out} (ha : args.length.ble Try.f89.ntmps = true) (h8 : args.length.ble 8 = true) (mss : List (List (Option Nat))) (hb : backOK args out.back)
    (hw : rnC Try.prog b89 (topQ rs89 args mss out) (slotsOf (argsAV argBase args 0) 0) (argsOb argBase args 0)) : CW Try.prog 89 args out :=
  CW.of Try.func89 rs89 mss (by decide +kernel) (by decide +kernel) (by decide +kernel) ha h8 chk89 hb hw
def l91_0 : IC := (.seq (.reg [⟨(some 9), 0, none, .bin .lss (.t 8) (.t 7)⟩]) (.seq (.cond (.t 9) .skip (.exit 0)) (.seq (.block 1 (.seq (.seq (.reg [⟨(some 10), 0, none, .mv (.t 0)⟩,
  ⟨(some 11), 0, none, .nck (.t 10)⟩,
  ⟨(some 12), 0, none, .fa (.t 11) 2⟩,
  ⟨(some 13), 0, none, .ld (.t 12) none⟩,
  ⟨(some 14), 0, none, .bin .neq (.t 13) (.c (.int .i64 0))⟩]) (.cond (.t 14) .ret .skip)) (.draw (.take 0 ⟨(some 15), 0, none, .mv (.t 1)⟩ (.take 1 ⟨(some 16), 0, none, .mv (.t 1)⟩ (.take 2 ⟨(some 17), 0, none, .nck (.t 16)⟩ (.take 3 ⟨(some 18), 0, none, .fa (.t 17) 4⟩ (.take 4 ⟨(some 19), 0, none, .ld (.t 18) none⟩ (.take 5 ⟨(some 20), 0, none, .mv (.t 0)⟩ (.br 6 ⟨(some 21), 11, none, .call (.c (.fn 83)) [((.t 20), .ptr [none, none, none]), ((.c (.int .i64 1114111)), .plain)]⟩ [false, true, true, true, true, true] (.take 7 ⟨(some 22), 0, none, .conv .i32 (.t 21)⟩ (.br 8 ⟨(some 23), 21, none, .bsl 1 [(.t 22)]⟩ [false, true, true, true, true, true] (.br 9 ⟨(some 24), 22, none, .app (.t 19) (.t 23) 1 4 false⟩ [false, true, true, true, true] (.take 10 ⟨(some 25), 0, none, .nck (.t 15)⟩ (.take 11 ⟨(some 26), 0, none, .fa (.t 25) 4⟩ (.br 12 ⟨none, 0, none, .st (.t 26) (.t 24) none⟩ [false, true, false, false, false, false] .done .no))) .no) .no)) .no)))))))))) (.reg [⟨(some 27), 0, none, .bin .add (.t 8) (.c (.int .i64 1))⟩,
  ⟨(some 8), 0, none, .mv (.t 27)⟩]))))
def n91_0 : Norm := ⟨[(0, .plain), (1, .plain), (7, .plain), (8, .plain)], [(3000000, [.plain, .plain, .plain]), (3000064, [.plain, .plain, .plain, .plain, .own 1 1000104, .plain, .plain, .plain])]⟩
def b91 : IC := (.seq (.reg [⟨(some 5), 0, none, .mv (.t 0)⟩,
  ⟨(some 6), 1, none, .call (.c (.fn 83)) [((.t 5), .ptr [none, none, none]), ((.c (.int .i64 24)), .plain)]⟩,
  ⟨(some 4), 0, none, .mv (.t 6)⟩]) (.seq (.reg [⟨(some 7), 0, none, .mv (.t 4)⟩,
  ⟨(some 8), 0, none, .mv (.c (.int .i64 0))⟩]) (.block 0 (.loop n91_0 l91_0))))
def rs91 : List (Nat × Option Nat × Mode) := []
theorem chk91 : chkC Try.prog Try.f91.ntmps b91 (Try.f91.body.getD .skip) = true := by decide +kernel
theorem top91 {args : List Arg} {out : Out} (ha : args.length.ble Try.f91.ntmps = true) (h8 : args.length.ble 8 = true) (mss : List (List (Option Nat))) (hb : backOK args out.back)
    (hw : rnC Try.prog b91 (topQ rs91 args mss out) (slotsOf (argsAV argBase args 0) 0) (argsOb argBase args 0)) : CW Try.prog 91 args out :=
  CW.of Try.func91 rs91 mss (by decide +kernel) (by decide +kernel) (by decide +kernel) ha h8 chk91 hb hw
def b94 : IC := (.reg [⟨(some 4), 0, none, .mv (.t 1)⟩,
  ⟨(some 5), 0, none, .mv (.t 0)⟩,
  ⟨(some 6), 1, none, .call (.c (.fn 95)) [((.t 5), .ptr [none, none, none])]⟩,
  ⟨(some 7), 0, none, .nck (.t 4)⟩,
  ⟨(some 8), 0, none, .fa (.t 7) 5⟩,
  ⟨none, 0, none, .st (.t 8) (.t 6) none⟩])
def rs94 : List (Nat × Option Nat × Mode) := []
theorem chk94 : chkC Try.prog Try.f94.ntmps b94 (Try.f94.body.getD .skip) = true := by decide +kernel
theorem top94 {args : List Arg} {out : Out} (ha : args.length.ble Try.f94.ntmps = true) (h8 : args.length.ble 8 = true) (mss : List (List (Option Nat))) (hb : backOK args out.back)
    (hw : rnC Try.prog b94 (topQ rs94 args mss out) (slotsOf (argsAV argBase args 0) 0) (argsOb argBase args 0)) : CW Try.prog 94 args out :=
  CW.of Try.func94 rs94 mss (by decide +kernel) (by decide +kernel) (by decide +kernel) ha h8 chk94 hb hw
def b97 : IC := (.reg [⟨(some 4), 0, none, .mv (.t 1)⟩,
  ⟨(some 5), 0, none, .mv (.t 0)⟩,
  ⟨(some 6), 1, none, .call (.c (.fn 95)) [((.t 5), .ptr [none, none, none])]⟩,
  ⟨(some 7), 0, none, .nck (.t 4)⟩,
  ⟨(some 8), 0, none, .fa (.t 7) 6⟩,
  ⟨none, 0, none, .st (.t 8) (.t 6) none⟩])
def rs97 : List (Nat × Option Nat × Mode) := []
theorem chk97 : chkC Try.prog Try.f97.ntmps b97 (Try.f97.body.getD .skip) = true := by decide +kernel
theorem top97 {args : List Arg} {out : Out} (ha : args.length.ble Try.f97.ntmps = true) (h8 : args.length.ble 8 = true) (mss : List (List (Option Nat))) (hb : backOK args out.back)
    (hw : rnC Try.prog b97 (topQ rs97 args mss out) (slotsOf (argsAV argBase args 0) 0) (argsOb argBase args 0)) : CW Try.prog 97 args out :=
  CW.of Try.func97 rs97 mss (by decide +kernel) (by decide +kernel) (by decide +kernel) ha h8 chk97 hb hw
def b100 : IC := (.reg [⟨(some 4), 0, none, .mv (.t 1)⟩,
  ⟨(some 5), 0, none, .mv (.t 0)⟩,
  ⟨(some 6), 1, none, .call (.c (.fn 101)) [((.t 5), .ptr [none, none, none])]⟩,
  ⟨(some 7), 0, none, .nck (.t 4)⟩,
  ⟨(some 8), 0, none, .fa (.t 7) 7⟩,
  ⟨none, 0, none, .st (.t 8) (.t 6) none⟩])
def rs100 : List (Nat × Option Nat × Mode) := []
theorem chk100 : chkC Try.prog Try.f100.ntmps b100 (Try.f100.body.getD .skip) = true := by decide +kernel
theorem top100 {args : List Arg} {out : Out} (ha : args.length.ble Try.f100.ntmps = true) (h8 : args.length.ble 8 = true) (mss : List (List (Option Nat))) (hb : backOK args out.back)
    (hw : rnC Try.prog b100 (topQ rs100 args mss out) (slotsOf (argsAV argBase args 0) 0) (argsOb argBase args 0)) : CW Try.prog 100 args out :=
  CW.of Try.func100 rs100 mss (by decide +kernel) (by decide +kernel) (by decide +kernel) ha h8 chk100 hb hw
def recA (r : Rec) : Arg := .obj [.cv (.int .i64 r.kind), .cv (.int .i64 r.lo), .cv (.int .i64 r.hi), .cv (.int .i64 r.n), .own 1 (runes r.to), .cv (.str r.name), .cv (.str r.other), .cv (.flt r.weight)]
def recB (r : Rec) : List OC := [.cv (.int .i64 r.kind), .cv (.int .i64 r.lo), .cv (.int .i64 r.hi), .cv (.int .i64 r.n), .own 1 (runes r.to), .cv (.str r.name), .cv (.str r.other), .cv (.flt r.weight)]
def recH (i : Nat) (r : Rec) : LObj := .obj [.c (.int .i64 r.kind), .c (.int .i64 r.lo), .c (.int .i64 r.hi), .c (.int .i64 r.n), .osl i 0 r.to.length, .c (.str r.name), .c (.str r.other), .c (.flt r.weight)]
def recM : List (Option Nat) := [none, none, none, none, some 1, none, none, none]
def EndR (b : List UInt8) (s s' : Int × Int) (r r' : Rec) (H : LH) : Prop := retW [] H [] [rdA b s, recA r] [[none, none, none], recM] ⟨[], [rdB b s', recB r']⟩
theorem endR {b : List UInt8} {s s' : Int × Int} {r r' : Rec} {H : LH} {i : Nat} (h0 : i ≠ 3000000) (h1 : i ≠ 3000064)
    (g0 : LH.get H 3000000 = some (rdH b s')) (g1 : LH.get H 3000064 = some (recH i r')) (g2 : LH.get H i = some (.row 1 (runes r'.to))) : EndR b s s' r r' H := by
  unfold EndR retW
  have k1 : LH.get (LH.set H 3000000 .dead) 3000064 = some (recH i r') := by rw [LH.get_set, if_neg (by decide)]; exact g1
  have k2 : LH.get (LH.set (LH.set H 3000000 .dead) 3000064 .dead) i = some (.row 1 (runes r'.to)) := by rw [LH.get_set, if_neg h1, LH.get_set, if_neg h0]; exact g2
  simp only [retVals, argsW, rdA, recA, recM, backL, argBase, Nat.mul_zero, Nat.mul_one, Nat.add_zero, Nat.reduceAdd, g0, rdH, argW, ungW, List.length_cons, List.length_nil, cellsW, true_and, List.append_nil, List.nil_append, backArgs, rdB, List.map_nil, List.map_cons]
  simp only [g1, k1, recH, cellsW, k2, runes_len, ungW, true_and, List.append_nil, List.nil_append, recB]
  exact ⟨by decide, Nat.le_of_ble_eq_true rfl, by simp⟩
def rdS : Slots := [(0, .ref 3000000 0), (1, .ref 3000064 0)]
def rdL (b : List UInt8) (s : Int × Int) (r : Rec) : LH := [(3000000, rdH b s), (3000064, .obj [.c (.int .i64 r.kind), .c (.int .i64 r.lo), .c (.int .i64 r.hi), .c (.int .i64 r.n), .osl 3000069 0 (runes r.to).length, .c (.str r.name), .c (.str r.other), .c (.flt r.weight)]), (3000069, .row 1 (runes r.to))]
def rLo (b : List UInt8) (s : Int × Int) (r : Rec) : (Int × Int) × Rec := ((numP b 1114111 s).2, { r with lo := (numP b 1114111 s).1, hi := (numP b 1114111 s).1 })
def rHi (b : List UInt8) (s : Int × Int) (r : Rec) : (Int × Int) × Rec := ((numP b 1114111 s).2, { r with hi := IntKind.i64.wrap (r.lo + (numP b 1114111 s).1) })
def rN (b : List UInt8) (s : Int × Int) (r : Rec) : (Int × Int) × Rec := ((numP b 1114111 s).2, { r with n := (numP b 1114111 s).1 })
def rOne (b : List UInt8) (s : Int × Int) (r : Rec) : (Int × Int) × Rec := ((numP b 1114111 s).2, { r with to := [IntKind.i32.wrap (numP b 1114111 s).1] })
def rName (b : List UInt8) (s : Int × Int) (r : Rec) : (Int × Int) × Rec := ((textP b s).2, { r with name := (textP b s).1 })
def rOther (b : List UInt8) (s : Int × Int) (r : Rec) : (Int × Int) × Rec := ((textP b s).2, { r with other := (textP b s).1 })
def rWt (b : List UInt8) (s : Int × Int) (r : Rec) : (Int × Int) × Rec := ((fltP b s).2, { r with weight := (fltP b s).1 })
theorem w82 (b : List UInt8) (s : Int × Int) (r : Rec) (hb : b.length < 1000000000000000) (hs : 0 ≤ s.1 ∧ s.1 ≤ b.length) (Q : Ex → Slots → LH → Prop)
    (hQ : ∀ σ H, EndR b s (rLo b s r).1 r (rLo b s r).2 H → Q .norm σ H) : rnC Try.prog b82 Q rdS (rdL b s r) := by
  unfold b82 rdS rdL rdH
  simp only [go_sem, ↓reduceIte, Nat.reduceEqDiff, Nat.reduceMul, Nat.reduceAdd, Nat.reduceDiv, Nat.reduceSub, Nat.reduceLT, Nat.reduceLeDiff, Int.reduceLE, Int.reduceLT, Int.reduceToNat, Int.reduceEq]
  refine callK_i ⟨[.cv (.int .i64 (numP b 1114111 s).1)], [[.cv (.sl 1 (bys b)), .cv (.int .i64 (numP b 1114111 s).2.1), .cv (.int .i64 (numP b 1114111 s).2.2)]]⟩ (fun _ => cw83 b 1114111 s hb hs) ⟨by simp only [go_sem, ↓reduceIte, Nat.reduceEqDiff, Nat.reduceMul, Nat.reduceAdd, Nat.reduceDiv, Nat.reduceSub, Nat.reduceLT, Nat.reduceLeDiff, Int.reduceLE, Int.reduceLT, Int.reduceToNat, Int.reduceEq], .inl rfl, ⟨by simp only [go_sem, ↓reduceIte, Nat.reduceEqDiff, Nat.reduceMul, Nat.reduceAdd, Nat.reduceDiv, Nat.reduceSub, Nat.reduceLT, Nat.reduceLeDiff, Int.reduceLE, Int.reduceLT, Int.reduceToNat, Int.reduceEq], by simp, by simp, by simp⟩, ?_⟩
  simp only [go_sem, ↓reduceIte, Nat.reduceEqDiff, Nat.reduceMul, Nat.reduceAdd, Nat.reduceDiv, Nat.reduceSub, Nat.reduceLT, Nat.reduceLeDiff, Int.reduceLE, Int.reduceLT, Int.reduceToNat, Int.reduceEq]
  repeat (refine ⟨by (first | omega | (intro h1 h2; exact ⟨h1, h2⟩) | (intro h1; omega) | (intro h1; exact h1) | trivial), ?_⟩)
  first | exact hQ _ _ (endR (i := 3000069) (by decide) (by decide) rfl rfl rfl)
theorem cw82 (b : List UInt8) (s : Int × Int) (r : Rec) (hb : b.length < 1000000000000000) (hs : 0 ≤ s.1 ∧ s.1 ≤ b.length) :
    CW Try.prog 82 [rdA b s, recA r] ⟨[], [rdB b (rLo b s r).1, recB (rLo b s r).2]⟩ :=
  top82 rfl rfl [[none, none, none], recM] ⟨rfl, rfl, trivial⟩ (w82 b s r hb hs _ fun σ H h => h)
theorem w85 (b : List UInt8) (s : Int × Int) (r : Rec) (hb : b.length < 1000000000000000) (hs : 0 ≤ s.1 ∧ s.1 ≤ b.length) (Q : Ex → Slots → LH → Prop)
    (hQ : ∀ σ H, EndR b s (rHi b s r).1 r (rHi b s r).2 H → Q .norm σ H) : rnC Try.prog b85 Q rdS (rdL b s r) := by
  unfold b85 rdS rdL rdH
  simp only [go_sem, ↓reduceIte, Nat.reduceEqDiff, Nat.reduceMul, Nat.reduceAdd, Nat.reduceDiv, Nat.reduceSub, Nat.reduceLT, Nat.reduceLeDiff, Int.reduceLE, Int.reduceLT, Int.reduceToNat, Int.reduceEq]
  refine callK_i ⟨[.cv (.int .i64 (numP b 1114111 s).1)], [[.cv (.sl 1 (bys b)), .cv (.int .i64 (numP b 1114111 s).2.1), .cv (.int .i64 (numP b 1114111 s).2.2)]]⟩ (fun _ => cw83 b 1114111 s hb hs) ⟨by simp only [go_sem, ↓reduceIte, Nat.reduceEqDiff, Nat.reduceMul, Nat.reduceAdd, Nat.reduceDiv, Nat.reduceSub, Nat.reduceLT, Nat.reduceLeDiff, Int.reduceLE, Int.reduceLT, Int.reduceToNat, Int.reduceEq], .inl rfl, ⟨by simp only [go_sem, ↓reduceIte, Nat.reduceEqDiff, Nat.reduceMul, Nat.reduceAdd, Nat.reduceDiv, Nat.reduceSub, Nat.reduceLT, Nat.reduceLeDiff, Int.reduceLE, Int.reduceLT, Int.reduceToNat, Int.reduceEq], by simp, by simp, by simp⟩, ?_⟩
  simp only [go_sem, ↓reduceIte, Nat.reduceEqDiff, Nat.reduceMul, Nat.reduceAdd, Nat.reduceDiv, Nat.reduceSub, Nat.reduceLT, Nat.reduceLeDiff, Int.reduceLE, Int.reduceLT, Int.reduceToNat, Int.reduceEq]
  repeat (refine ⟨by (first | omega | (intro h1 h2; exact ⟨h1, h2⟩) | (intro h1; omega) | (intro h1; exact h1) | trivial), ?_⟩)
  first | exact hQ _ _ (endR (i := 3000069) (by decide) (by decide) rfl rfl rfl)
theorem cw85 (b : List UInt8) (s : Int × Int) (r : Rec) (hb : b.length < 1000000000000000) (hs : 0 ≤ s.1 ∧ s.1 ≤ b.length) :
    CW Try.prog 85 [rdA b s, recA r] ⟨[], [rdB b (rHi b s r).1, recB (rHi b s r).2]⟩ :=
  top85 rfl rfl [[none, none, none], recM] ⟨rfl, rfl, trivial⟩ (w85 b s r hb hs _ fun σ H h => h)
theorem w87 (b : List UInt8) (s : Int × Int) (r : Rec) (hb : b.length < 1000000000000000) (hs : 0 ≤ s.1 ∧ s.1 ≤ b.length) (Q : Ex → Slots → LH → Prop)
    (hQ : ∀ σ H, EndR b s (rN b s r).1 r (rN b s r).2 H → Q .norm σ H) : rnC Try.prog b87 Q rdS (rdL b s r) := by
  unfold b87 rdS rdL rdH
  simp only [go_sem, ↓reduceIte, Nat.reduceEqDiff, Nat.reduceMul, Nat.reduceAdd, Nat.reduceDiv, Nat.reduceSub, Nat.reduceLT, Nat.reduceLeDiff, Int.reduceLE, Int.reduceLT, Int.reduceToNat, Int.reduceEq]
  refine callK_i ⟨[.cv (.int .i64 (numP b 1114111 s).1)], [[.cv (.sl 1 (bys b)), .cv (.int .i64 (numP b 1114111 s).2.1), .cv (.int .i64 (numP b 1114111 s).2.2)]]⟩ (fun _ => cw83 b 1114111 s hb hs) ⟨by simp only [go_sem, ↓reduceIte, Nat.reduceEqDiff, Nat.reduceMul, Nat.reduceAdd, Nat.reduceDiv, Nat.reduceSub, Nat.reduceLT, Nat.reduceLeDiff, Int.reduceLE, Int.reduceLT, Int.reduceToNat, Int.reduceEq], .inl rfl, ⟨by simp only [go_sem, ↓reduceIte, Nat.reduceEqDiff, Nat.reduceMul, Nat.reduceAdd, Nat.reduceDiv, Nat.reduceSub, Nat.reduceLT, Nat.reduceLeDiff, Int.reduceLE, Int.reduceLT, Int.reduceToNat, Int.reduceEq], by simp, by simp, by simp⟩, ?_⟩
  simp only [go_sem, ↓reduceIte, Nat.reduceEqDiff, Nat.reduceMul, Nat.reduceAdd, Nat.reduceDiv, Nat.reduceSub, Nat.reduceLT, Nat.reduceLeDiff, Int.reduceLE, Int.reduceLT, Int.reduceToNat, Int.reduceEq]
  repeat (refine ⟨by (first | omega | (intro h1 h2; exact ⟨h1, h2⟩) | (intro h1; omega) | (intro h1; exact h1) | trivial), ?_⟩)
  first | exact hQ _ _ (endR (i := 3000069) (by decide) (by decide) rfl rfl rfl)
theorem cw87 (b : List UInt8) (s : Int × Int) (r : Rec) (hb : b.length < 1000000000000000) (hs : 0 ≤ s.1 ∧ s.1 ≤ b.length) :
    CW Try.prog 87 [rdA b s, recA r] ⟨[], [rdB b (rN b s r).1, recB (rN b s r).2]⟩ :=
  top87 rfl rfl [[none, none, none], recM] ⟨rfl, rfl, trivial⟩ (w87 b s r hb hs _ fun σ H h => h)
theorem w89 (b : List UInt8) (s : Int × Int) (r : Rec) (hb : b.length < 1000000000000000) (hs : 0 ≤ s.1 ∧ s.1 ≤ b.length) (Q : Ex → Slots → LH → Prop)
    (hQ : ∀ σ H, EndR b s (rOne b s r).1 r (rOne b s r).2 H → Q .norm σ H) : rnC Try.prog b89 Q rdS (rdL b s r) := by
  unfold b89 rdS rdL rdH
  simp only [go_sem, ↓reduceIte, Nat.reduceEqDiff, Nat.reduceMul, Nat.reduceAdd, Nat.reduceDiv, Nat.reduceSub, Nat.reduceLT, Nat.reduceLeDiff, Int.reduceLE, Int.reduceLT, Int.reduceToNat, Int.reduceEq]
  refine callK_i ⟨[.cv (.int .i64 (numP b 1114111 s).1)], [[.cv (.sl 1 (bys b)), .cv (.int .i64 (numP b 1114111 s).2.1), .cv (.int .i64 (numP b 1114111 s).2.2)]]⟩ (fun _ => cw83 b 1114111 s hb hs) ⟨by simp only [go_sem, ↓reduceIte, Nat.reduceEqDiff, Nat.reduceMul, Nat.reduceAdd, Nat.reduceDiv, Nat.reduceSub, Nat.reduceLT, Nat.reduceLeDiff, Int.reduceLE, Int.reduceLT, Int.reduceToNat, Int.reduceEq], .inl rfl, ⟨by simp only [go_sem, ↓reduceIte, Nat.reduceEqDiff, Nat.reduceMul, Nat.reduceAdd, Nat.reduceDiv, Nat.reduceSub, Nat.reduceLT, Nat.reduceLeDiff, Int.reduceLE, Int.reduceLT, Int.reduceToNat, Int.reduceEq], by simp, by simp, by simp⟩, ?_⟩
  simp only [go_sem, ↓reduceIte, Nat.reduceEqDiff, Nat.reduceMul, Nat.reduceAdd, Nat.reduceDiv, Nat.reduceSub, Nat.reduceLT, Nat.reduceLeDiff, Int.reduceLE, Int.reduceLT, Int.reduceToNat, Int.reduceEq]
  repeat (refine ⟨by (first | omega | (intro h1 h2; exact ⟨h1, h2⟩) | (intro h1; omega) | (intro h1; exact h1) | trivial), ?_⟩)
  first | exact hQ _ _ (endR (i := 704) (by decide) (by decide) rfl rfl rfl) | exact hQ _ _ (endR (i := 128) (by decide) (by decide) rfl rfl rfl) | exact hQ _ _ (endR (i := 192) (by decide) (by decide) rfl rfl rfl) | exact hQ _ _ (endR (i := 256) (by decide) (by decide) rfl rfl rfl) | exact hQ _ _ (endR (i := 320) (by decide) (by decide) rfl rfl rfl) | exact hQ _ _ (endR (i := 768) (by decide) (by decide) rfl rfl rfl) | exact hQ _ _ (endR (i := 832) (by decide) (by decide) rfl rfl rfl)
theorem cw89 (b : List UInt8) (s : Int × Int) (r : Rec) (hb : b.length < 1000000000000000) (hs : 0 ≤ s.1 ∧ s.1 ≤ b.length) :
    CW Try.prog 89 [rdA b s, recA r] ⟨[], [rdB b (rOne b s r).1, recB (rOne b s r).2]⟩ :=
  top89 rfl rfl [[none, none, none], recM] ⟨rfl, rfl, trivial⟩ (w89 b s r hb hs _ fun σ H h => h)
theorem w94 (b : List UInt8) (s : Int × Int) (r : Rec) (hb : b.length < 1000000000000000) (hs : 0 ≤ s.1 ∧ s.1 ≤ b.length) (Q : Ex → Slots → LH → Prop)
    (hQ : ∀ σ H, EndR b s (rName b s r).1 r (rName b s r).2 H → Q .norm σ H) : rnC Try.prog b94 Q rdS (rdL b s r) := by
  unfold b94 rdS rdL rdH
  simp only [go_sem, ↓reduceIte, Nat.reduceEqDiff, Nat.reduceMul, Nat.reduceAdd, Nat.reduceDiv, Nat.reduceSub, Nat.reduceLT, Nat.reduceLeDiff, Int.reduceLE, Int.reduceLT, Int.reduceToNat, Int.reduceEq]
  refine callK_i ⟨[.cv (.str (textP b s).1)], [[.cv (.sl 1 (bys b)), .cv (.int .i64 (textP b s).2.1), .cv (.int .i64 (textP b s).2.2)]]⟩ (fun _ => cw95 b s hb hs) ⟨by simp only [go_sem, ↓reduceIte, Nat.reduceEqDiff, Nat.reduceMul, Nat.reduceAdd, Nat.reduceDiv, Nat.reduceSub, Nat.reduceLT, Nat.reduceLeDiff, Int.reduceLE, Int.reduceLT, Int.reduceToNat, Int.reduceEq], .inl rfl, ⟨by simp only [go_sem, ↓reduceIte, Nat.reduceEqDiff, Nat.reduceMul, Nat.reduceAdd, Nat.reduceDiv, Nat.reduceSub, Nat.reduceLT, Nat.reduceLeDiff, Int.reduceLE, Int.reduceLT, Int.reduceToNat, Int.reduceEq], by simp, by simp, by simp⟩, ?_⟩
  simp only [go_sem, ↓reduceIte, Nat.reduceEqDiff, Nat.reduceMul, Nat.reduceAdd, Nat.reduceDiv, Nat.reduceSub, Nat.reduceLT, Nat.reduceLeDiff, Int.reduceLE, Int.reduceLT, Int.reduceToNat, Int.reduceEq]
  repeat (refine ⟨by (first | omega | (intro h1 h2; exact ⟨h1, h2⟩) | (intro h1; omega) | (intro h1; exact h1) | trivial), ?_⟩)
  first | exact hQ _ _ (endR (i := 3000069) (by decide) (by decide) rfl rfl rfl)
theorem cw94 (b : List UInt8) (s : Int × Int) (r : Rec) (hb : b.length < 1000000000000000) (hs : 0 ≤ s.1 ∧ s.1 ≤ b.length) :
    CW Try.prog 94 [rdA b s, recA r] ⟨[], [rdB b (rName b s r).1, recB (rName b s r).2]⟩ :=
  top94 rfl rfl [[none, none, none], recM] ⟨rfl, rfl, trivial⟩ (w94 b s r hb hs _ fun σ H h => h)
theorem w97 (b : List UInt8) (s : Int × Int) (r : Rec) (hb : b.length < 1000000000000000) (hs : 0 ≤ s.1 ∧ s.1 ≤ b.length) (Q : Ex → Slots → LH → Prop)
    (hQ : ∀ σ H, EndR b s (rOther b s r).1 r (rOther b s r).2 H → Q .norm σ H) : rnC Try.prog b97 Q rdS (rdL b s r) := by
  unfold b97 rdS rdL rdH
  simp only [go_sem, ↓reduceIte, Nat.reduceEqDiff, Nat.reduceMul, Nat.reduceAdd, Nat.reduceDiv, Nat.reduceSub, Nat.reduceLT, Nat.reduceLeDiff, Int.reduceLE, Int.reduceLT, Int.reduceToNat, Int.reduceEq]
  refine callK_i ⟨[.cv (.str (textP b s).1)], [[.cv (.sl 1 (bys b)), .cv (.int .i64 (textP b s).2.1), .cv (.int .i64 (textP b s).2.2)]]⟩ (fun _ => cw95 b s hb hs) ⟨by simp only [go_sem, ↓reduceIte, Nat.reduceEqDiff, Nat.reduceMul, Nat.reduceAdd, Nat.reduceDiv, Nat.reduceSub, Nat.reduceLT, Nat.reduceLeDiff, Int.reduceLE, Int.reduceLT, Int.reduceToNat, Int.reduceEq], .inl rfl, ⟨by simp only [go_sem, ↓reduceIte, Nat.reduceEqDiff, Nat.reduceMul, Nat.reduceAdd, Nat.reduceDiv, Nat.reduceSub, Nat.reduceLT, Nat.reduceLeDiff, Int.reduceLE, Int.reduceLT, Int.reduceToNat, Int.reduceEq], by simp, by simp, by simp⟩, ?_⟩
  simp only [go_sem, ↓reduceIte, Nat.reduceEqDiff, Nat.reduceMul, Nat.reduceAdd, Nat.reduceDiv, Nat.reduceSub, Nat.reduceLT, Nat.reduceLeDiff, Int.reduceLE, Int.reduceLT, Int.reduceToNat, Int.reduceEq]
  repeat (refine ⟨by (first | omega | (intro h1 h2; exact ⟨h1, h2⟩) | (intro h1; omega) | (intro h1; exact h1) | trivial), ?_⟩)
  first | exact hQ _ _ (endR (i := 3000069) (by decide) (by decide) rfl rfl rfl)
theorem cw97 (b : List UInt8) (s : Int × Int) (r : Rec) (hb : b.length < 1000000000000000) (hs : 0 ≤ s.1 ∧ s.1 ≤ b.length) :
    CW Try.prog 97 [rdA b s, recA r] ⟨[], [rdB b (rOther b s r).1, recB (rOther b s r).2]⟩ :=
  top97 rfl rfl [[none, none, none], recM] ⟨rfl, rfl, trivial⟩ (w97 b s r hb hs _ fun σ H h => h)
theorem w100 (b : List UInt8) (s : Int × Int) (r : Rec) (hb : b.length < 1000000000000000) (hs : 0 ≤ s.1 ∧ s.1 ≤ b.length) (Q : Ex → Slots → LH → Prop)
    (hQ : ∀ σ H, EndR b s (rWt b s r).1 r (rWt b s r).2 H → Q .norm σ H) : rnC Try.prog b100 Q rdS (rdL b s r) := by
  unfold b100 rdS rdL rdH
  simp only [go_sem, ↓reduceIte, Nat.reduceEqDiff, Nat.reduceMul, Nat.reduceAdd, Nat.reduceDiv, Nat.reduceSub, Nat.reduceLT, Nat.reduceLeDiff, Int.reduceLE, Int.reduceLT, Int.reduceToNat, Int.reduceEq]
  refine callK_i ⟨[.cv (.flt (fltP b s).1)], [[.cv (.sl 1 (bys b)), .cv (.int .i64 (fltP b s).2.1), .cv (.int .i64 (fltP b s).2.2)]]⟩ (fun _ => cw101 b s hb hs) ⟨by simp only [go_sem, ↓reduceIte, Nat.reduceEqDiff, Nat.reduceMul, Nat.reduceAdd, Nat.reduceDiv, Nat.reduceSub, Nat.reduceLT, Nat.reduceLeDiff, Int.reduceLE, Int.reduceLT, Int.reduceToNat, Int.reduceEq], .inl rfl, ⟨by simp only [go_sem, ↓reduceIte, Nat.reduceEqDiff, Nat.reduceMul, Nat.reduceAdd, Nat.reduceDiv, Nat.reduceSub, Nat.reduceLT, Nat.reduceLeDiff, Int.reduceLE, Int.reduceLT, Int.reduceToNat, Int.reduceEq], by simp, by simp, by simp⟩, ?_⟩
  simp only [go_sem, ↓reduceIte, Nat.reduceEqDiff, Nat.reduceMul, Nat.reduceAdd, Nat.reduceDiv, Nat.reduceSub, Nat.reduceLT, Nat.reduceLeDiff, Int.reduceLE, Int.reduceLT, Int.reduceToNat, Int.reduceEq]
  repeat (refine ⟨by (first | omega | (intro h1 h2; exact ⟨h1, h2⟩) | (intro h1; omega) | (intro h1; exact h1) | trivial), ?_⟩)
  first | exact hQ _ _ (endR (i := 3000069) (by decide) (by decide) rfl rfl rfl)
theorem cw100 (b : List UInt8) (s : Int × Int) (r : Rec) (hb : b.length < 1000000000000000) (hs : 0 ≤ s.1 ∧ s.1 ≤ b.length) :
    CW Try.prog 100 [rdA b s, recA r] ⟨[], [rdB b (rWt b s r).1, recB (rWt b s r).2]⟩ :=
  top100 rfl rfl [[none, none, none], recM] ⟨rfl, rfl, trivial⟩ (w100 b s r hb hs _ fun σ H h => h)
theorem numP_at {b : List UInt8} {most : Int} {s : Int × Int} (hs : 0 ≤ s.1 ∧ s.1 ≤ b.length) : 0 ≤ (numP b most s).2.1 ∧ (numP b most s).2.1 ≤ b.length := by
  unfold numP
  split
  · exact hs
  · split
    · exact hs
    · split
      · exact hs
      · rename_i h1 h2 h3
        have := (rdU_spec b s.1).1 (Decidable.of_not_not h2)
        simp only
        omega
theorem numP_val {b : List UInt8} {most : Int} {s : Int × Int} : 0 ≤ (numP b most s).1 ∧ (numP b most s).1 < 9223372036854775808 ∧ ((numP b most s).2.2 = 0 → 0 ≤ most → (numP b most s).1 ≤ most) := by
  have h := rdU_spec b s.1
  unfold numP
  split
  · exact ⟨by simp, by simp, fun _ h => h⟩
  · split
    · rename_i h1 h2
      have := h.2 h2
      exact ⟨by simp [this], by simp [this], fun h3 => absurd h3 h2⟩
    · rename_i h1 h2
      have := h.1 (Decidable.of_not_not h2)
      split
      · exact ⟨by simp only; omega, by simp only; omega, fun h => by simp at h⟩
      · exact ⟨by simp only; omega, by simp only; omega, fun _ _ => by simp only; omega⟩
theorem take_runes (a : List Int) : List.take a.length (runes a) = runes a := List.take_of_length_le (by rw [runes_len]; omega)
theorem app_runes (a : List Int) (c : Int) : runes a ++ [CV.int .i32 c] = runes (a ++ [c]) := by simp [runes]
def listP (b : List UInt8) : Nat → (Int × Int) → List Int → (Int × Int) × List Int
  | 0, s, to => (s, to)
  | k + 1, s, to => if s.2 ≠ 0 then (s, to) else listP b k (numP b 1114111 s).2 (to ++ [IntKind.i32.wrap (numP b 1114111 s).1])
def rList (b : List UInt8) (s : Int × Int) (r : Rec) : (Int × Int) × Rec :=
  ((listP b (numP b 24 s).1.toNat (numP b 24 s).2 r.to).1, { r with to := (listP b (numP b 24 s).1.toNat (numP b 24 s).2 r.to).2 })
theorem w91 (b : List UInt8) (s : Int × Int) (r : Rec) (hb : b.length < 1000000000000000) (hs : 0 ≤ s.1 ∧ s.1 ≤ b.length) (hto : r.to.length ≤ 1000) (Q : Ex → Slots → LH → Prop)
    (hQ : ∀ σ H, EndR b s (rList b s r).1 r (rList b s r).2 H → Q .norm σ H ∧ Q .ret σ H) : rnC Try.prog b91 Q rdS (rdL b s r) := by
  have hat := numP_at (most := 24) hs
  obtain ⟨v0, v1, v2⟩ := @numP_val b 24 s
  unfold b91 rdS rdL rdH
  simp only [go_sem, ↓reduceIte, Nat.reduceEqDiff, Nat.reduceMul, Nat.reduceAdd, Nat.reduceDiv, Nat.reduceSub, Nat.reduceLT, Nat.reduceLeDiff, Int.reduceLE, Int.reduceLT, Int.reduceToNat, Int.reduceEq]
  refine callK_i ⟨[.cv (.int .i64 (numP b 24 s).1)], [[.cv (.sl 1 (bys b)), .cv (.int .i64 (numP b 24 s).2.1), .cv (.int .i64 (numP b 24 s).2.2)]]⟩ (fun _ => cw83 b 24 s hb hs) ⟨by simp only [go_sem, ↓reduceIte, Nat.reduceEqDiff, Nat.reduceMul, Nat.reduceAdd, Nat.reduceDiv, Nat.reduceSub, Nat.reduceLT, Nat.reduceLeDiff, Int.reduceLE, Int.reduceLT, Int.reduceToNat, Int.reduceEq], .inl rfl, ⟨by simp only [go_sem, ↓reduceIte, Nat.reduceEqDiff, Nat.reduceMul, Nat.reduceAdd, Nat.reduceDiv, Nat.reduceSub, Nat.reduceLT, Nat.reduceLeDiff, Int.reduceLE, Int.reduceLT, Int.reduceToNat, Int.reduceEq], by simp, by simp, by simp⟩, ?_⟩
  simp only [go_sem, ↓reduceIte, Nat.reduceEqDiff, Nat.reduceMul, Nat.reduceAdd, Nat.reduceDiv, Nat.reduceSub, Nat.reduceLT, Nat.reduceLeDiff, Int.reduceLE, Int.reduceLT, Int.reduceToNat, Int.reduceEq]
  unfold rList at hQ
  have v2' := fun h => v2 h (by decide)
  clear v2
  generalize numP b 24 s = N at hat v0 v1 v2' hQ
  obtain ⟨n, s1⟩ := N
  simp only at hat v0 v1 v2' hQ
  refine loopR.by (α := Nat × (Int × Int) × List Int) (fun p => [(0, .ref 3000000 0), (1, .ref 3000064 0), (7, .c (.int .i64 n)), (8, .c (.int .i64 p.1))])
    (fun p => [(3000000, .obj [.c (.sl 1 (bys b)), .c (.int .i64 p.2.1.1), .c (.int .i64 p.2.1.2)]), (3000064, .obj [.c (.int .i64 r.kind), .c (.int .i64 r.lo), .c (.int .i64 r.hi), .c (.int .i64 r.n), .osl 1000104 0 p.2.2.length, .c (.str r.name), .c (.str r.other), .c (.flt r.weight)]), (1000104, .row 1 (runes p.2.2))])
    (fun p => n.toNat - p.1) (fun p => p.1 ≤ n.toNat ∧ (p.2.1.2 = 0 → n ≤ 24) ∧ p.2.2.length = r.to.length + p.1 ∧ (0 ≤ p.2.1.1 ∧ p.2.1.1 ≤ b.length) ∧ listP b (n.toNat - p.1) p.2.1 p.2.2 = listP b n.toNat s1 r.to) (0, s1, r.to) ⟨Nat.zero_le _, v2', rfl, hat, rfl⟩ ?_ ?_
  · intro Y hY
    simp only [go_sem, ↓reduceIte, Nat.reduceEqDiff, Nat.reduceMul, Nat.reduceAdd, Nat.reduceDiv, Nat.reduceSub, Nat.reduceLT, Nat.reduceLeDiff, Int.reduceLE, Int.reduceLT, Int.reduceToNat, Int.reduceEq, n91_0]
    exact ⟨by simp, hY⟩
  intro p hp Y hY
  obtain ⟨k, s2, to⟩ := p
  obtain ⟨hk, hk24, hlen, hat2, heq⟩ := hp
  simp only at hk hk24 hlen hat2 heq
  unfold l91_0
  simp only [go_sem, ↓reduceIte, Nat.reduceEqDiff, Nat.reduceMul, Nat.reduceAdd, Nat.reduceDiv, Nat.reduceSub, Nat.reduceLT, Nat.reduceLeDiff, Int.reduceLE, Int.reduceLT, Int.reduceToNat, Int.reduceEq, n91_0]
  have done : ∀ s' to', listP b n.toNat s1 r.to = (s', to') → ∀ σ H i, i ≠ 3000000 → i ≠ 3000064 → LH.get H 3000000 = some (rdH b s') → LH.get H 3000064 = some (recH i { r with to := to' }) → LH.get H i = some (.row 1 (runes to')) → Q .norm σ H ∧ Q .ret σ H := by
    intro s' to' h σ H i h0 h1 g0 g1 g2
    rw [h] at hQ
    exact hQ σ H (endR h0 h1 g0 g1 g2)
  refine ⟨fun h => ⟨fun h2 => ?_, fun h2 => ?_⟩, fun h => ?_⟩
  · refine (done s2 to ?_ _ _ 1000104 (by decide) (by decide) rfl rfl rfl).2
    rw [← heq, show n.toNat - k = (n.toNat - (k + 1)) + 1 by omega, listP, if_pos h2]
  · have h24 := hk24 h2
    have hat3 := numP_at (most := 1114111) hat2
    have hstep : listP b (n.toNat - (k + 1)) (numP b 1114111 s2).2 (to ++ [IntKind.i32.wrap (numP b 1114111 s2).1]) = listP b n.toNat s1 r.to := by
      rw [← heq, show n.toNat - k = (n.toNat - (k + 1)) + 1 by omega, listP, if_neg (by simpa using h2)]
    refine callK_i ⟨[.cv (.int .i64 (numP b 1114111 s2).1)], [[.cv (.sl 1 (bys b)), .cv (.int .i64 (numP b 1114111 s2).2.1), .cv (.int .i64 (numP b 1114111 s2).2.2)]]⟩ (fun _ => cw83 b 1114111 s2 hb hat2) ⟨by simp only [go_sem, ↓reduceIte, Nat.reduceEqDiff, Nat.reduceMul, Nat.reduceAdd, Nat.reduceDiv, Nat.reduceSub, Nat.reduceLT, Nat.reduceLeDiff, Int.reduceLE, Int.reduceLT, Int.reduceToNat, Int.reduceEq], .inl rfl, ⟨by simp only [go_sem, ↓reduceIte, Nat.reduceEqDiff, Nat.reduceMul, Nat.reduceAdd, Nat.reduceDiv, Nat.reduceSub, Nat.reduceLT, Nat.reduceLeDiff, Int.reduceLE, Int.reduceLT, Int.reduceToNat, Int.reduceEq], by simp, by simp, by simp⟩, ?_⟩
    simp only [go_sem, ↓reduceIte, Nat.reduceEqDiff, Nat.reduceMul, Nat.reduceAdd, Nat.reduceDiv, Nat.reduceSub, Nat.reduceLT, Nat.reduceLeDiff, Int.reduceLE, Int.reduceLT, Int.reduceToNat, Int.reduceEq]
    have ht : List.take to.length (runes to) = runes to := take_runes to
    rw [ht, succ64 (show k < n.toNat by omega) (by omega), app_runes, runes_len]
    have := hY (k + 1, (numP b 1114111 s2).2, to ++ [IntKind.i32.wrap (numP b 1114111 s2).1]) ⟨by simp only; omega, fun _ => h24, by simp only [List.length_append, List.length_singleton]; omega, hat3, hstep⟩ (by simp only; omega)
    simp only [List.length_append, List.length_singleton] at this
    exact ⟨by omega, ⟨rfl, by simp⟩, this⟩
  · refine (done s2 to ?_ _ _ 1000104 (by decide) (by decide) rfl rfl rfl).1
    rw [← heq, show n.toNat - k = 0 by omega, listP]
theorem cw91 (b : List UInt8) (s : Int × Int) (r : Rec) (hb : b.length < 1000000000000000) (hs : 0 ≤ s.1 ∧ s.1 ≤ b.length) (hto : r.to.length ≤ 1000) :
    CW Try.prog 91 [rdA b s, recA r] ⟨[], [rdB b (rList b s r).1, recB (rList b s r).2]⟩ :=
  top91 rfl rfl [[none, none, none], recM] ⟨rfl, rfl, trivial⟩ (w91 b s r hb hs hto _ fun σ H h => ⟨h, h⟩)
def b81 : IC := (.seq (.reg [⟨(some 1), 1, none, .box (.t 0)⟩,
  ⟨(some 2), 0, none, .mv (.c .nilsl)⟩]) (.seq (.reg [⟨(some 3), 0, none, .fa (.t 1) 1⟩,
  ⟨(some 4), 0, none, .ld (.t 3) none⟩,
  ⟨(some 5), 2, none, .call (.c (.fn 56)) [((.t 4), .plain)]⟩,
  ⟨(some 2), 0, none, .mv (.t 5)⟩]) .ret))
def rs81 : List (Nat × Option Nat × Mode) := [(2, none, .move 1)]
theorem chk81 : chkC Try.prog Try.f81.ntmps b81 (Try.f81.body.getD .skip) = true := by decide +kernel
theorem top81 {args : List Arg} {out : Out} (ha : args.length.ble Try.f81.ntmps = true) (h8 : args.length.ble 8 = true) (mss : List (List (Option Nat))) (hb : backOK args out.back)
    (hw : rnC Try.prog b81 (topQ rs81 args mss out) (slotsOf (argsAV argBase args 0) 0) (argsOb argBase args 0)) : CW Try.prog 81 args out :=
  CW.of Try.func81 rs81 mss (by decide +kernel) (by decide +kernel) (by decide +kernel) ha h8 chk81 hb hw
def b84 : IC := (.seq (.reg [⟨(some 1), 1, none, .box (.t 0)⟩,
  ⟨(some 2), 0, none, .mv (.c .nilsl)⟩]) (.seq (.reg [⟨(some 3), 0, none, .fa (.t 1) 2⟩,
  ⟨(some 4), 0, none, .ld (.t 3) none⟩,
  ⟨(some 5), 0, none, .fa (.t 1) 1⟩,
  ⟨(some 6), 0, none, .ld (.t 5) none⟩,
  ⟨(some 7), 0, none, .bin .sub (.t 4) (.t 6)⟩,
  ⟨(some 8), 2, none, .call (.c (.fn 56)) [((.t 7), .plain)]⟩,
  ⟨(some 2), 0, none, .mv (.t 8)⟩]) .ret))
def rs84 : List (Nat × Option Nat × Mode) := [(2, none, .move 1)]
theorem chk84 : chkC Try.prog Try.f84.ntmps b84 (Try.f84.body.getD .skip) = true := by decide +kernel
theorem top84 {args : List Arg} {out : Out} (ha : args.length.ble Try.f84.ntmps = true) (h8 : args.length.ble 8 = true) (mss : List (List (Option Nat))) (hb : backOK args out.back)
    (hw : rnC Try.prog b84 (topQ rs84 args mss out) (slotsOf (argsAV argBase args 0) 0) (argsOb argBase args 0)) : CW Try.prog 84 args out :=
  CW.of Try.func84 rs84 mss (by decide +kernel) (by decide +kernel) (by decide +kernel) ha h8 chk84 hb hw
def b86 : IC := (.seq (.reg [⟨(some 1), 1, none, .box (.t 0)⟩,
  ⟨(some 2), 0, none, .mv (.c .nilsl)⟩]) (.seq (.reg [⟨(some 3), 0, none, .fa (.t 1) 3⟩,
  ⟨(some 4), 0, none, .ld (.t 3) none⟩,
  ⟨(some 5), 2, none, .call (.c (.fn 56)) [((.t 4), .plain)]⟩,
  ⟨(some 2), 0, none, .mv (.t 5)⟩]) .ret))
def rs86 : List (Nat × Option Nat × Mode) := [(2, none, .move 1)]
theorem chk86 : chkC Try.prog Try.f86.ntmps b86 (Try.f86.body.getD .skip) = true := by decide +kernel
theorem top86 {args : List Arg} {out : Out} (ha : args.length.ble Try.f86.ntmps = true) (h8 : args.length.ble 8 = true) (mss : List (List (Option Nat))) (hb : backOK args out.back)
    (hw : rnC Try.prog b86 (topQ rs86 args mss out) (slotsOf (argsAV argBase args 0) 0) (argsOb argBase args 0)) : CW Try.prog 86 args out :=
  CW.of Try.func86 rs86 mss (by decide +kernel) (by decide +kernel) (by decide +kernel) ha h8 chk86 hb hw
def b88 : IC := (.seq (.reg [⟨(some 1), 1, none, .box (.t 0)⟩,
  ⟨(some 2), 0, none, .mv (.c .nilsl)⟩]) (.seq (.reg [⟨(some 3), 0, none, .fa (.t 1) 4⟩,
  ⟨(some 4), 0, none, .ld (.t 3) none⟩,
  ⟨(some 5), 0, none, .ia (.t 4) (.c (.int .i64 0)) 1⟩,
  ⟨(some 6), 0, none, .ld (.t 5) none⟩,
  ⟨(some 7), 0, none, .conv .i64 (.t 6)⟩,
  ⟨(some 8), 2, none, .call (.c (.fn 56)) [((.t 7), .plain)]⟩,
  ⟨(some 2), 0, none, .mv (.t 8)⟩]) .ret))
def rs88 : List (Nat × Option Nat × Mode) := [(2, none, .move 1)]
theorem chk88 : chkC Try.prog Try.f88.ntmps b88 (Try.f88.body.getD .skip) = true := by decide +kernel
theorem top88 {args : List Arg} {out : Out} (ha : args.length.ble Try.f88.ntmps = true) (h8 : args.length.ble 8 = true) (mss : List (List (Option Nat))) (hb : backOK args out.back)
    (hw : rnC Try.prog b88 (topQ rs88 args mss out) (slotsOf (argsAV argBase args 0) 0) (argsOb argBase args 0)) : CW Try.prog 88 args out :=
  CW.of Try.func88 rs88 mss (by decide +kernel) (by decide +kernel) (by decide +kernel) ha h8 chk88 hb hw
def b92 : IC := (.seq (.reg [⟨(some 1), 1, none, .box (.t 0)⟩,
  ⟨(some 2), 0, none, .mv (.c .nilsl)⟩]) (.seq (.reg [⟨(some 3), 0, none, .fa (.t 1) 5⟩,
  ⟨(some 4), 0, none, .ld (.t 3) none⟩,
  ⟨(some 5), 2, none, .call (.c (.fn 93)) [((.t 4), .plain)]⟩,
  ⟨(some 2), 0, none, .mv (.t 5)⟩]) .ret))
def rs92 : List (Nat × Option Nat × Mode) := [(2, none, .move 1)]
theorem chk92 : chkC Try.prog Try.f92.ntmps b92 (Try.f92.body.getD .skip) = true := by decide +kernel
theorem top92 {args : List Arg} {out : Out} (ha : args.length.ble Try.f92.ntmps = true) (h8 : args.length.ble 8 = true) (mss : List (List (Option Nat))) (hb : backOK args out.back)
    (hw : rnC Try.prog b92 (topQ rs92 args mss out) (slotsOf (argsAV argBase args 0) 0) (argsOb argBase args 0)) : CW Try.prog 92 args out :=
  CW.of Try.func92 rs92 mss (by decide +kernel) (by decide +kernel) (by decide +kernel) ha h8 chk92 hb hw
def b96 : IC := (.seq (.reg [⟨(some 1), 1, none, .box (.t 0)⟩,
  ⟨(some 2), 0, none, .mv (.c .nilsl)⟩]) (.seq (.reg [⟨(some 3), 0, none, .fa (.t 1) 6⟩,
  ⟨(some 4), 0, none, .ld (.t 3) none⟩,
  ⟨(some 5), 2, none, .call (.c (.fn 93)) [((.t 4), .plain)]⟩,
  ⟨(some 2), 0, none, .mv (.t 5)⟩]) .ret))
def rs96 : List (Nat × Option Nat × Mode) := [(2, none, .move 1)]
theorem chk96 : chkC Try.prog Try.f96.ntmps b96 (Try.f96.body.getD .skip) = true := by decide +kernel
theorem top96 {args : List Arg} {out : Out} (ha : args.length.ble Try.f96.ntmps = true) (h8 : args.length.ble 8 = true) (mss : List (List (Option Nat))) (hb : backOK args out.back)
    (hw : rnC Try.prog b96 (topQ rs96 args mss out) (slotsOf (argsAV argBase args 0) 0) (argsOb argBase args 0)) : CW Try.prog 96 args out :=
  CW.of Try.func96 rs96 mss (by decide +kernel) (by decide +kernel) (by decide +kernel) ha h8 chk96 hb hw
def b98 : IC := (.seq (.reg [⟨(some 1), 1, none, .box (.t 0)⟩,
  ⟨(some 2), 0, none, .mv (.c .nilsl)⟩]) (.seq (.reg [⟨(some 3), 0, none, .fa (.t 1) 7⟩,
  ⟨(some 4), 0, none, .ld (.t 3) none⟩,
  ⟨(some 5), 2, none, .call (.c (.fn 99)) [((.t 4), .plain)]⟩,
  ⟨(some 2), 0, none, .mv (.t 5)⟩]) .ret))
def rs98 : List (Nat × Option Nat × Mode) := [(2, none, .move 1)]
theorem chk98 : chkC Try.prog Try.f98.ntmps b98 (Try.f98.body.getD .skip) = true := by decide +kernel
theorem top98 {args : List Arg} {out : Out} (ha : args.length.ble Try.f98.ntmps = true) (h8 : args.length.ble 8 = true) (mss : List (List (Option Nat))) (hb : backOK args out.back)
    (hw : rnC Try.prog b98 (topQ rs98 args mss out) (slotsOf (argsAV argBase args 0) 0) (argsOb argBase args 0)) : CW Try.prog 98 args out :=
  CW.of Try.func98 rs98 mss (by decide +kernel) (by decide +kernel) (by decide +kernel) ha h8 chk98 hb hw
def l90_0 : IC := (.seq (.reg [⟨(some 14), 0, none, .bin .lss (.t 13) (.t 12)⟩]) (.seq (.cond (.t 14) .skip (.exit 0)) (.seq (.block 1 (.seq (.reg [⟨(some 15), 0, none, .ia (.t 11) (.t 13) 1⟩,
  ⟨(some 16), 0, none, .ld (.t 15) none⟩,
  ⟨(some 5), 0, none, .mv (.t 16)⟩]) (.reg [⟨(some 17), 0, none, .mv (.t 3)⟩,
  ⟨(some 18), 0, none, .mv (.t 5)⟩,
  ⟨(some 19), 0, none, .conv .i64 (.t 18)⟩,
  ⟨(some 20), 12, none, .call (.c (.fn 56)) [((.t 19), .plain)]⟩,
  ⟨(some 21), 22, none, .app (.t 17) (.t 20) 1 1 false⟩,
  ⟨(some 3), 0, none, .mv (.t 21)⟩]))) (.reg [⟨(some 22), 0, none, .bin .add (.t 13) (.c (.int .i64 1))⟩,
  ⟨(some 13), 0, none, .mv (.t 22)⟩]))))
def n90_0 : Norm := ⟨[(3, .own 1 1000003), (11, .plain), (12, .plain), (13, .plain)], []⟩
def b90 : IC := (.seq (.reg [⟨(some 1), 1, none, .box (.t 0)⟩,
  ⟨(some 2), 0, none, .mv (.c .nilsl)⟩]) (.seq (.reg [⟨(some 6), 0, none, .fa (.t 1) 4⟩,
  ⟨(some 7), 0, none, .ld (.t 6) none⟩,
  ⟨(some 8), 0, none, .len false (.t 7)⟩,
  ⟨(some 9), 2, none, .call (.c (.fn 56)) [((.t 8), .plain)]⟩,
  ⟨(some 3), 0, none, .mv (.t 9)⟩]) (.seq (.seq (.reg [⟨(some 10), 0, none, .fa (.t 1) 4⟩,
  ⟨(some 11), 0, none, .ld (.t 10) none⟩,
  ⟨(some 12), 0, none, .len false (.t 11)⟩,
  ⟨(some 13), 0, none, .mv (.c (.int .i64 0))⟩]) (.block 0 (.loop n90_0 l90_0))) (.seq (.reg [⟨(some 23), 0, none, .mv (.t 3)⟩,
  ⟨(some 2), 0, none, .mv (.t 23)⟩]) .ret))))
def rs90 : List (Nat × Option Nat × Mode) := [(2, none, .move 1)]
theorem chk90 : chkC Try.prog Try.f90.ntmps b90 (Try.f90.body.getD .skip) = true := by decide +kernel
theorem top90 {args : List Arg} {out : Out} (ha : args.length.ble Try.f90.ntmps = true) (h8 : args.length.ble 8 = true) (mss : List (List (Option Nat))) (hb : backOK args out.back)
    (hw : rnC Try.prog b90 (topQ rs90 args mss out) (slotsOf (argsAV argBase args 0) 0) (argsOb argBase args 0)) : CW Try.prog 90 args out :=
  CW.of Try.func90 rs90 mss (by decide +kernel) (by decide +kernel) (by decide +kernel) ha h8 chk90 hb hw
theorem w81 (r : Rec) (hr : r.ok) (Q : Ex → Slots → LH → Prop) (hQ : ∀ σ H, OwnAt 1 (bys (uintP r.lo)) (Slots.get σ 2) H → Q .ret σ H) : rnC Try.prog b81 Q [(0, .c (Rec.cv r))] [] := by
  unfold b81
  simp only [go_sem, ↓reduceIte, Nat.reduceEqDiff, Nat.reduceMul, Nat.reduceAdd, Nat.reduceDiv, Nat.reduceSub, Nat.reduceLT, Nat.reduceLeDiff, Int.reduceLE, Int.reduceLT, Int.reduceToNat, Int.reduceEq]
  refine callK_O 1 (bys (uintP r.lo)) (fun _ => cw56 r.lo hr.2.1.2) (by simp only [go_sem, ↓reduceIte, Nat.reduceEqDiff, Nat.reduceMul, Nat.reduceAdd, Nat.reduceDiv, Nat.reduceSub, Nat.reduceLT, Nat.reduceLeDiff, Int.reduceLE, Int.reduceLT, Int.reduceToNat, Int.reduceEq]) rfl rfl ?_
  simp only [go_sem, ↓reduceIte, Nat.reduceEqDiff, Nat.reduceMul, Nat.reduceAdd, Nat.reduceDiv, Nat.reduceSub, Nat.reduceLT, Nat.reduceLeDiff, Int.reduceLE, Int.reduceLT, Int.reduceToNat, Int.reduceEq]
  repeat (refine ⟨by (first | omega | (intro h1 h2; exact ⟨h1, h2⟩) | (intro h1; omega) | (intro h1; exact h1) | trivial), ?_⟩)
  exact hQ _ _ (own_at rfl (bys_len _).symm rfl)
theorem cw81 (r : Rec) (hr : r.ok) : CW Try.prog 81 [.cv (Rec.cv r)] ⟨[.own 1 (bys (uintP r.lo))], []⟩ :=
  top81 rfl rfl [] trivial (w81 r hr _ fun σ H h => retO rfl h)
theorem w84 (r : Rec) (hr : r.ok) (Q : Ex → Slots → LH → Prop) (hQ : ∀ σ H, OwnAt 1 (bys (uintP (IntKind.i64.wrap (r.hi - r.lo)))) (Slots.get σ 2) H → Q .ret σ H) : rnC Try.prog b84 Q [(0, .c (Rec.cv r))] [] := by
  unfold b84
  simp only [go_sem, ↓reduceIte, Nat.reduceEqDiff, Nat.reduceMul, Nat.reduceAdd, Nat.reduceDiv, Nat.reduceSub, Nat.reduceLT, Nat.reduceLeDiff, Int.reduceLE, Int.reduceLT, Int.reduceToNat, Int.reduceEq]
  refine callK_O 1 (bys (uintP (IntKind.i64.wrap (r.hi - r.lo)))) (fun _ => cw56 (IntKind.i64.wrap (r.hi - r.lo)) (by rw [wrap_i64]; omega)) (by simp only [go_sem, ↓reduceIte, Nat.reduceEqDiff, Nat.reduceMul, Nat.reduceAdd, Nat.reduceDiv, Nat.reduceSub, Nat.reduceLT, Nat.reduceLeDiff, Int.reduceLE, Int.reduceLT, Int.reduceToNat, Int.reduceEq]) rfl rfl ?_
  simp only [go_sem, ↓reduceIte, Nat.reduceEqDiff, Nat.reduceMul, Nat.reduceAdd, Nat.reduceDiv, Nat.reduceSub, Nat.reduceLT, Nat.reduceLeDiff, Int.reduceLE, Int.reduceLT, Int.reduceToNat, Int.reduceEq]
  repeat (refine ⟨by (first | omega | (intro h1 h2; exact ⟨h1, h2⟩) | (intro h1; omega) | (intro h1; exact h1) | trivial), ?_⟩)
  exact hQ _ _ (own_at rfl (bys_len _).symm rfl)
theorem cw84 (r : Rec) (hr : r.ok) : CW Try.prog 84 [.cv (Rec.cv r)] ⟨[.own 1 (bys (uintP (IntKind.i64.wrap (r.hi - r.lo))))], []⟩ :=
  top84 rfl rfl [] trivial (w84 r hr _ fun σ H h => retO rfl h)
theorem w86 (r : Rec) (hr : r.ok) (Q : Ex → Slots → LH → Prop) (hQ : ∀ σ H, OwnAt 1 (bys (uintP r.n)) (Slots.get σ 2) H → Q .ret σ H) : rnC Try.prog b86 Q [(0, .c (Rec.cv r))] [] := by
  unfold b86
  simp only [go_sem, ↓reduceIte, Nat.reduceEqDiff, Nat.reduceMul, Nat.reduceAdd, Nat.reduceDiv, Nat.reduceSub, Nat.reduceLT, Nat.reduceLeDiff, Int.reduceLE, Int.reduceLT, Int.reduceToNat, Int.reduceEq]
  refine callK_O 1 (bys (uintP r.n)) (fun _ => cw56 r.n hr.2.2.2.1.2) (by simp only [go_sem, ↓reduceIte, Nat.reduceEqDiff, Nat.reduceMul, Nat.reduceAdd, Nat.reduceDiv, Nat.reduceSub, Nat.reduceLT, Nat.reduceLeDiff, Int.reduceLE, Int.reduceLT, Int.reduceToNat, Int.reduceEq]) rfl rfl ?_
  simp only [go_sem, ↓reduceIte, Nat.reduceEqDiff, Nat.reduceMul, Nat.reduceAdd, Nat.reduceDiv, Nat.reduceSub, Nat.reduceLT, Nat.reduceLeDiff, Int.reduceLE, Int.reduceLT, Int.reduceToNat, Int.reduceEq]
  repeat (refine ⟨by (first | omega | (intro h1 h2; exact ⟨h1, h2⟩) | (intro h1; omega) | (intro h1; exact h1) | trivial), ?_⟩)
  exact hQ _ _ (own_at rfl (bys_len _).symm rfl)
theorem cw86 (r : Rec) (hr : r.ok) : CW Try.prog 86 [.cv (Rec.cv r)] ⟨[.own 1 (bys (uintP r.n))], []⟩ :=
  top86 rfl rfl [] trivial (w86 r hr _ fun σ H h => retO rfl h)
theorem w88 (r : Rec) (hr : r.ok) (c : Int) (hto : r.to = [c]) (Q : Ex → Slots → LH → Prop) (hQ : ∀ σ H, OwnAt 1 (bys (uintP c)) (Slots.get σ 2) H → Q .ret σ H) : rnC Try.prog b88 Q [(0, .c (Rec.cv r))] [] := by
  unfold b88
  have hc : i32ok c := hr.2.2.2.2 c (by rw [hto]; exact List.mem_singleton.2 rfl)
  have e : (runes r.to).getD 0 .undef = .int .i32 c := by rw [hto]; rfl
  have e2 : IntKind.i64.wrap c = c := by unfold i32ok at hc; rw [wrap_i64]; omega
  have hl : r.to.length = 1 := by rw [hto]; rfl
  simp only [go_sem, ↓reduceIte, Nat.reduceEqDiff, Nat.reduceMul, Nat.reduceAdd, Nat.reduceDiv, Nat.reduceSub, Nat.reduceLT, Nat.reduceLeDiff, Int.reduceLE, Int.reduceLT, Int.reduceToNat, Int.reduceEq, e, e2]
  refine ⟨by omega, ?_⟩
  refine callK_O 1 (bys (uintP c)) (fun _ => cw56 c (by unfold i32ok at hc; omega)) (by simp only [go_sem, ↓reduceIte, Nat.reduceEqDiff, Nat.reduceMul, Nat.reduceAdd, Nat.reduceDiv, Nat.reduceSub, Nat.reduceLT, Nat.reduceLeDiff, Int.reduceLE, Int.reduceLT, Int.reduceToNat, Int.reduceEq]) rfl rfl ?_
  simp only [go_sem, ↓reduceIte, Nat.reduceEqDiff, Nat.reduceMul, Nat.reduceAdd, Nat.reduceDiv, Nat.reduceSub, Nat.reduceLT, Nat.reduceLeDiff, Int.reduceLE, Int.reduceLT, Int.reduceToNat, Int.reduceEq]
  repeat (refine ⟨by (first | omega | (intro h1 h2; exact ⟨h1, h2⟩) | (intro h1; omega) | (intro h1; exact h1) | trivial), ?_⟩)
  exact hQ _ _ (own_at rfl (bys_len _).symm rfl)
theorem cw88 (r : Rec) (hr : r.ok) (c : Int) (hto : r.to = [c]) : CW Try.prog 88 [.cv (Rec.cv r)] ⟨[.own 1 (bys (uintP c))], []⟩ :=
  top88 rfl rfl [] trivial (w88 r hr c hto _ fun σ H h => retO rfl h)
theorem w92 (r : Rec) (hn : r.name.size < 1000000000000) (Q : Ex → Slots → LH → Prop) (hQ : ∀ σ H, OwnAt 1 (bys (textL r.name)) (Slots.get σ 2) H → Q .ret σ H) : rnC Try.prog b92 Q [(0, .c (Rec.cv r))] [] := by
  unfold b92
  simp only [go_sem, ↓reduceIte, Nat.reduceEqDiff, Nat.reduceMul, Nat.reduceAdd, Nat.reduceDiv, Nat.reduceSub, Nat.reduceLT, Nat.reduceLeDiff, Int.reduceLE, Int.reduceLT, Int.reduceToNat, Int.reduceEq]
  refine callK_O 1 (bys (textL r.name)) (fun _ => cw93 r.name hn) (by simp only [go_sem, ↓reduceIte, Nat.reduceEqDiff, Nat.reduceMul, Nat.reduceAdd, Nat.reduceDiv, Nat.reduceSub, Nat.reduceLT, Nat.reduceLeDiff, Int.reduceLE, Int.reduceLT, Int.reduceToNat, Int.reduceEq]) rfl rfl ?_
  simp only [go_sem, ↓reduceIte, Nat.reduceEqDiff, Nat.reduceMul, Nat.reduceAdd, Nat.reduceDiv, Nat.reduceSub, Nat.reduceLT, Nat.reduceLeDiff, Int.reduceLE, Int.reduceLT, Int.reduceToNat, Int.reduceEq]
  repeat (refine ⟨by (first | omega | (intro h1 h2; exact ⟨h1, h2⟩) | (intro h1; omega) | (intro h1; exact h1) | trivial), ?_⟩)
  exact hQ _ _ (own_at rfl (bys_len _).symm rfl)
theorem cw92 (r : Rec) (hn : r.name.size < 1000000000000) : CW Try.prog 92 [.cv (Rec.cv r)] ⟨[.own 1 (bys (textL r.name))], []⟩ :=
  top92 rfl rfl [] trivial (w92 r hn _ fun σ H h => retO rfl h)
theorem w96 (r : Rec) (hn : r.other.size < 1000000000000) (Q : Ex → Slots → LH → Prop) (hQ : ∀ σ H, OwnAt 1 (bys (textL r.other)) (Slots.get σ 2) H → Q .ret σ H) : rnC Try.prog b96 Q [(0, .c (Rec.cv r))] [] := by
  unfold b96
  simp only [go_sem, ↓reduceIte, Nat.reduceEqDiff, Nat.reduceMul, Nat.reduceAdd, Nat.reduceDiv, Nat.reduceSub, Nat.reduceLT, Nat.reduceLeDiff, Int.reduceLE, Int.reduceLT, Int.reduceToNat, Int.reduceEq]
  refine callK_O 1 (bys (textL r.other)) (fun _ => cw93 r.other hn) (by simp only [go_sem, ↓reduceIte, Nat.reduceEqDiff, Nat.reduceMul, Nat.reduceAdd, Nat.reduceDiv, Nat.reduceSub, Nat.reduceLT, Nat.reduceLeDiff, Int.reduceLE, Int.reduceLT, Int.reduceToNat, Int.reduceEq]) rfl rfl ?_
  simp only [go_sem, ↓reduceIte, Nat.reduceEqDiff, Nat.reduceMul, Nat.reduceAdd, Nat.reduceDiv, Nat.reduceSub, Nat.reduceLT, Nat.reduceLeDiff, Int.reduceLE, Int.reduceLT, Int.reduceToNat, Int.reduceEq]
  repeat (refine ⟨by (first | omega | (intro h1 h2; exact ⟨h1, h2⟩) | (intro h1; omega) | (intro h1; exact h1) | trivial), ?_⟩)
  exact hQ _ _ (own_at rfl (bys_len _).symm rfl)
theorem cw96 (r : Rec) (hn : r.other.size < 1000000000000) : CW Try.prog 96 [.cv (Rec.cv r)] ⟨[.own 1 (bys (textL r.other))], []⟩ :=
  top96 rfl rfl [] trivial (w96 r hn _ fun σ H h => retO rfl h)
theorem w98 (r : Rec) (hw : r.weight < 18446744073709551616) (Q : Ex → Slots → LH → Prop) (hQ : ∀ σ H, OwnAt 1 (bys (floatL r.weight)) (Slots.get σ 2) H → Q .ret σ H) : rnC Try.prog b98 Q [(0, .c (Rec.cv r))] [] := by
  unfold b98
  simp only [go_sem, ↓reduceIte, Nat.reduceEqDiff, Nat.reduceMul, Nat.reduceAdd, Nat.reduceDiv, Nat.reduceSub, Nat.reduceLT, Nat.reduceLeDiff, Int.reduceLE, Int.reduceLT, Int.reduceToNat, Int.reduceEq]
  refine callK_O 1 (bys (floatL r.weight)) (fun _ => cw99 r.weight hw) (by simp only [go_sem, ↓reduceIte, Nat.reduceEqDiff, Nat.reduceMul, Nat.reduceAdd, Nat.reduceDiv, Nat.reduceSub, Nat.reduceLT, Nat.reduceLeDiff, Int.reduceLE, Int.reduceLT, Int.reduceToNat, Int.reduceEq]) rfl rfl ?_
  simp only [go_sem, ↓reduceIte, Nat.reduceEqDiff, Nat.reduceMul, Nat.reduceAdd, Nat.reduceDiv, Nat.reduceSub, Nat.reduceLT, Nat.reduceLeDiff, Int.reduceLE, Int.reduceLT, Int.reduceToNat, Int.reduceEq]
  repeat (refine ⟨by (first | omega | (intro h1 h2; exact ⟨h1, h2⟩) | (intro h1; omega) | (intro h1; exact h1) | trivial), ?_⟩)
  exact hQ _ _ (own_at rfl (bys_len _).symm rfl)
theorem cw98 (r : Rec) (hw : r.weight < 18446744073709551616) : CW Try.prog 98 [.cv (Rec.cv r)] ⟨[.own 1 (bys (floatL r.weight))], []⟩ :=
  top98 rfl rfl [] trivial (w98 r hw _ fun σ H h => retO rfl h)
def toL (l : List Int) : List UInt8 := uintP l.length ++ (l.map uintP).flatten
theorem uints_len (l : List Int) (h : ∀ c ∈ l, i32ok c) : (l.map uintP).flatten.length ≤ 9 * l.length := by
  induction l with
  | nil => simp
  | cons c l ih =>
    have h1 := uintP_9 (n := c) (by have := h c List.mem_cons_self; unfold i32ok at this; omega)
    have h2 := ih fun x hx => h x (List.mem_cons_of_mem _ hx)
    simp only [List.map_cons, List.flatten_cons, List.length_append, List.length_cons]
    omega
theorem w90 (r : Rec) (hr : r.ok) (hto : r.to.length ≤ 1000) (Q : Ex → Slots → LH → Prop) (hQ : ∀ σ H, OwnAt 1 (bys (toL r.to)) (Slots.get σ 2) H → Q .ret σ H) : rnC Try.prog b90 Q [(0, .c (Rec.cv r))] [] := by
  unfold b90
  simp only [go_sem, ↓reduceIte, Nat.reduceEqDiff, Nat.reduceMul, Nat.reduceAdd, Nat.reduceDiv, Nat.reduceSub, Nat.reduceLT, Nat.reduceLeDiff, Int.reduceLE, Int.reduceLT, Int.reduceToNat, Int.reduceEq]
  refine callK_O 1 (bys (uintP r.to.length)) (fun _ => cw56 r.to.length (by omega)) (by simp only [go_sem, ↓reduceIte, Nat.reduceEqDiff, Nat.reduceMul, Nat.reduceAdd, Nat.reduceDiv, Nat.reduceSub, Nat.reduceLT, Nat.reduceLeDiff, Int.reduceLE, Int.reduceLT, Int.reduceToNat, Int.reduceEq]) rfl rfl ?_
  simp only [go_sem, ↓reduceIte, Nat.reduceEqDiff, Nat.reduceMul, Nat.reduceAdd, Nat.reduceDiv, Nat.reduceSub, Nat.reduceLT, Nat.reduceLeDiff, Int.reduceLE, Int.reduceLT, Int.reduceToNat, Int.reduceEq]
  repeat (refine ⟨by (first | omega | (intro h1 h2; exact ⟨h1, h2⟩) | (intro h1; omega) | (intro h1; exact h1) | trivial), ?_⟩)
  have h9 := uintP_9 (n := r.to.length) (by omega)
  refine loopR.by (α := Nat) (fun i => [(3, .osl 1000003 0 (uintP r.to.length ++ ((r.to.take i).map uintP).flatten).length), (11, .c (.sl 1 (runes r.to))), (12, .c (.int .i64 r.to.length)), (13, .c (.int .i64 i))]) (fun i => [(1000003, .row 1 (bys (uintP r.to.length ++ ((r.to.take i).map uintP).flatten)))]) (fun i => r.to.length - i) (fun i => i ≤ r.to.length) 0 (Nat.zero_le _) ?_ ?_
  · intro Y hY
    simp only [go_sem, ↓reduceIte, Nat.reduceEqDiff, Nat.reduceMul, Nat.reduceAdd, Nat.reduceDiv, Nat.reduceSub, Nat.reduceLT, Nat.reduceLeDiff, Int.reduceLE, Int.reduceLT, Int.reduceToNat, Int.reduceEq, n90_0]
    simp at hY
    first | exact hY | exact ⟨by simp, hY⟩
  intro i hi Y hY
  unfold l90_0
  rcases Nat.lt_or_ge i r.to.length with hlt | hge
  · obtain ⟨c, e, hm, hd⟩ := runes_at hlt
    have hc := hr.2.2.2.2 c hm
    have e2 : IntKind.i64.wrap c = c := by unfold i32ok at hc; rw [wrap_i64]; omega
    have h92 := uintP_9 (n := c) (by unfold i32ok at hc; omega)
    have hx : r.to.take (i + 1) = r.to.take i ++ [c] := by
      rw [List.take_add_one]
      have : r.to[i]? = some c := by rw [← List.head?_drop, hd]; rfl
      rw [this]; rfl
    have hl := uints_len (r.to.take i) fun x hx => hr.2.2.2.2 x (List.mem_of_mem_take hx)
    have hli : (r.to.take i).length ≤ 1000 := by rw [List.length_take]; omega
    have hz : uintP r.to.length ++ ((r.to.take (i + 1)).map uintP).flatten = (uintP r.to.length ++ ((r.to.take i).map uintP).flatten) ++ uintP c := by
      rw [hx]; simp
    have hY' := hY (i + 1) (by omega) (by omega)
    rw [hz] at hY'
    generalize hW : uintP r.to.length ++ ((r.to.take i).map uintP).flatten = W at hY'
    have hWl : W.length ≤ 10000 := by rw [← hW, List.length_append]; omega
    simp only [go_sem, ↓reduceIte, Nat.reduceEqDiff, Nat.reduceMul, Nat.reduceAdd, Nat.reduceDiv, Nat.reduceSub, Nat.reduceLT, Nat.reduceLeDiff, Int.reduceLE, Int.reduceLT, Int.reduceToNat, Int.reduceEq, n90_0, e, e2]
    refine ⟨fun _ => ⟨by omega, ?_⟩, fun h => by omega⟩
    refine callK_O 1 (bys (uintP c)) (fun _ => cw56 c (by unfold i32ok at hc; omega)) (by simp only [go_sem, ↓reduceIte, Nat.reduceEqDiff, Nat.reduceMul, Nat.reduceAdd, Nat.reduceDiv, Nat.reduceSub, Nat.reduceLT, Nat.reduceLeDiff, Int.reduceLE, Int.reduceLT, Int.reduceToNat, Int.reduceEq]) rfl rfl ?_
    simp only [go_sem, ↓reduceIte, Nat.reduceEqDiff, Nat.reduceMul, Nat.reduceAdd, Nat.reduceDiv, Nat.reduceSub, Nat.reduceLT, Nat.reduceLeDiff, Int.reduceLE, Int.reduceLT, Int.reduceToNat, Int.reduceEq]
    repeat (refine ⟨by (first | omega | (intro h1 h2; exact ⟨h1, h2⟩) | (intro h1; omega) | (intro h1; exact h1) | trivial), ?_⟩)
    rw [bys_take, bys_take, bys_app, succ64 hlt (by omega)]
    simp only [bys_len]
    have hl2 : (W ++ uintP c).length = W.length + (uintP c).length := List.length_append
    rw [hl2] at hY'
    exact ⟨by omega, trivial, hY'⟩
  · have : i = r.to.length := by omega
    subst this
    have e : (runes r.to).getD r.to.length .undef = .undef := by
      rw [List.getD_eq_getElem?_getD, List.getElem?_eq_none (by rw [runes_len]; omega)]; rfl
    simp only [go_sem, ↓reduceIte, Nat.reduceEqDiff, Nat.reduceMul, Nat.reduceAdd, Nat.reduceDiv, Nat.reduceSub, Nat.reduceLT, Nat.reduceLeDiff, Int.reduceLE, Int.reduceLT, Int.reduceToNat, Int.reduceEq, n90_0, e]
    refine ⟨fun h => by omega, fun _ => hQ _ _ (own_at rfl ?_ ?_)⟩
    · rw [bys_len, toL, List.take_length, List.length_append]
    · rw [List.take_length]; rfl
theorem cw90 (r : Rec) (hr : r.ok) (hto : r.to.length ≤ 1000) : CW Try.prog 90 [.cv (Rec.cv r)] ⟨[.own 1 (bys (toL r.to))], []⟩ :=
  top90 rfl rfl [] trivial (w90 r hr hto _ fun σ H h => retO rfl h)
def b57 : IC := (.seq (.reg [⟨(some 2), 0, none, .mv (.c .nilsl)⟩]) (.seq (.reg [⟨(some 11), 0, none, .bld [.nilfn, .nilfn] [(0, (.c (.fn 81))), (1, (.c (.fn 82)))]⟩,
  ⟨(some 3), 1, none, .alloc [.nilfn, .nilfn]⟩,
  ⟨none, 0, none, .st (.t 3) (.t 11) (some 2)⟩]) (.seq (.reg [⟨(some 12), 0, none, .bld [.nilfn, .nilfn] [(0, (.c (.fn 84))), (1, (.c (.fn 85)))]⟩,
  ⟨(some 4), 2, none, .alloc [.nilfn, .nilfn]⟩,
  ⟨none, 0, none, .st (.t 4) (.t 12) (some 2)⟩]) (.seq (.reg [⟨(some 13), 0, none, .bld [.nilfn, .nilfn] [(0, (.c (.fn 86))), (1, (.c (.fn 87)))]⟩,
  ⟨(some 5), 3, none, .alloc [.nilfn, .nilfn]⟩,
  ⟨none, 0, none, .st (.t 5) (.t 13) (some 2)⟩]) (.seq (.reg [⟨(some 14), 0, none, .bld [.nilfn, .nilfn] [(0, (.c (.fn 88))), (1, (.c (.fn 89)))]⟩,
  ⟨(some 6), 4, none, .alloc [.nilfn, .nilfn]⟩,
  ⟨none, 0, none, .st (.t 6) (.t 14) (some 2)⟩]) (.seq (.reg [⟨(some 15), 0, none, .bld [.nilfn, .nilfn] [(0, (.c (.fn 90))), (1, (.c (.fn 91)))]⟩,
  ⟨(some 7), 5, none, .alloc [.nilfn, .nilfn]⟩,
  ⟨none, 0, none, .st (.t 7) (.t 15) (some 2)⟩]) (.seq (.reg [⟨(some 16), 0, none, .bld [.nilfn, .nilfn] [(0, (.c (.fn 92))), (1, (.c (.fn 94)))]⟩,
  ⟨(some 8), 6, none, .alloc [.nilfn, .nilfn]⟩,
  ⟨none, 0, none, .st (.t 8) (.t 16) (some 2)⟩]) (.seq (.reg [⟨(some 17), 0, none, .bld [.nilfn, .nilfn] [(0, (.c (.fn 96))), (1, (.c (.fn 97)))]⟩,
  ⟨(some 9), 7, none, .alloc [.nilfn, .nilfn]⟩,
  ⟨none, 0, none, .st (.t 9) (.t 17) (some 2)⟩]) (.seq (.reg [⟨(some 18), 0, none, .bld [.nilfn, .nilfn] [(0, (.c (.fn 98))), (1, (.c (.fn 100)))]⟩,
  ⟨(some 10), 8, none, .alloc [.nilfn, .nilfn]⟩,
  ⟨none, 0, none, .st (.t 10) (.t 18) (some 2)⟩]) (.seq (.seq (.reg [⟨(some 19), 0, none, .mv (.t 0)⟩]) (.block 0 (.seq (.seq (.reg [⟨(some 21), 0, none, .bin .eql (.t 19) (.c (.int .i64 1))⟩,
  ⟨(some 20), 0, none, .mv (.t 21)⟩]) (.cond (.t 20) .skip (.seq (.reg [⟨(some 22), 0, none, .bin .eql (.t 19) (.c (.int .i64 2))⟩,
  ⟨(some 20), 0, none, .mv (.t 22)⟩]) (.cond (.t 20) .skip (.reg [⟨(some 23), 0, none, .bin .eql (.t 19) (.c (.int .i64 11))⟩,
  ⟨(some 20), 0, none, .mv (.t 23)⟩]))))) (.cond (.t 20) (.seq (.reg [⟨(some 24), 0, none, .ld (.t 3) (some 2)⟩,
  ⟨(some 25), 0, none, .ld (.t 4) (some 2)⟩,
  ⟨(some 26), 9, none, .bsl 2 [(.t 24), (.t 25)]⟩,
  ⟨(some 2), 0, none, .mv (.t 26)⟩]) .ret) (.seq (.reg [⟨(some 28), 0, none, .bin .eql (.t 19) (.c (.int .i64 3))⟩,
  ⟨(some 27), 0, none, .mv (.t 28)⟩]) (.cond (.t 27) (.seq (.reg [⟨(some 29), 0, none, .ld (.t 3) (some 2)⟩,
  ⟨(some 30), 0, none, .ld (.t 4) (some 2)⟩,
  ⟨(some 31), 0, none, .ld (.t 7) (some 2)⟩,
  ⟨(some 32), 10, none, .bsl 2 [(.t 29), (.t 30), (.t 31)]⟩,
  ⟨(some 2), 0, none, .mv (.t 32)⟩]) .ret) (.seq (.reg [⟨(some 34), 0, none, .bin .eql (.t 19) (.c (.int .i64 4))⟩,
  ⟨(some 33), 0, none, .mv (.t 34)⟩]) (.cond (.t 33) (.seq (.reg [⟨(some 35), 0, none, .ld (.t 3) (some 2)⟩,
  ⟨(some 36), 0, none, .ld (.t 4) (some 2)⟩,
  ⟨(some 37), 0, none, .ld (.t 5) (some 2)⟩,
  ⟨(some 38), 0, none, .ld (.t 6) (some 2)⟩,
  ⟨(some 39), 11, none, .bsl 2 [(.t 35), (.t 36), (.t 37), (.t 38)]⟩,
  ⟨(some 2), 0, none, .mv (.t 39)⟩]) .ret) (.seq (.seq (.reg [⟨(some 41), 0, none, .bin .eql (.t 19) (.c (.int .i64 5))⟩,
  ⟨(some 40), 0, none, .mv (.t 41)⟩]) (.cond (.t 40) .skip (.seq (.reg [⟨(some 42), 0, none, .bin .eql (.t 19) (.c (.int .i64 7))⟩,
  ⟨(some 40), 0, none, .mv (.t 42)⟩]) (.cond (.t 40) .skip (.seq (.reg [⟨(some 43), 0, none, .bin .eql (.t 19) (.c (.int .i64 8))⟩,
  ⟨(some 40), 0, none, .mv (.t 43)⟩]) (.cond (.t 40) .skip (.reg [⟨(some 44), 0, none, .bin .eql (.t 19) (.c (.int .i64 13))⟩,
  ⟨(some 40), 0, none, .mv (.t 44)⟩]))))))) (.cond (.t 40) (.seq (.reg [⟨(some 45), 0, none, .ld (.t 3) (some 2)⟩,
  ⟨(some 46), 0, none, .ld (.t 7) (some 2)⟩,
  ⟨(some 47), 12, none, .bsl 2 [(.t 45), (.t 46)]⟩,
  ⟨(some 2), 0, none, .mv (.t 47)⟩]) .ret) (.seq (.seq (.reg [⟨(some 49), 0, none, .bin .eql (.t 19) (.c (.int .i64 6))⟩,
  ⟨(some 48), 0, none, .mv (.t 49)⟩]) (.cond (.t 48) .skip (.seq (.reg [⟨(some 50), 0, none, .bin .eql (.t 19) (.c (.int .i64 9))⟩,
  ⟨(some 48), 0, none, .mv (.t 50)⟩]) (.cond (.t 48) .skip (.reg [⟨(some 51), 0, none, .bin .eql (.t 19) (.c (.int .i64 10))⟩,
  ⟨(some 48), 0, none, .mv (.t 51)⟩]))))) (.cond (.t 48) (.seq (.reg [⟨(some 52), 0, none, .ld (.t 3) (some 2)⟩,
  ⟨(some 53), 0, none, .ld (.t 4) (some 2)⟩,
  ⟨(some 54), 0, none, .ld (.t 5) (some 2)⟩,
  ⟨(some 55), 13, none, .bsl 2 [(.t 52), (.t 53), (.t 54)]⟩,
  ⟨(some 2), 0, none, .mv (.t 55)⟩]) .ret) (.seq (.reg [⟨(some 57), 0, none, .bin .eql (.t 19) (.c (.int .i64 12))⟩,
  ⟨(some 56), 0, none, .mv (.t 57)⟩]) (.cond (.t 56) (.seq (.reg [⟨(some 58), 0, none, .ld (.t 3) (some 2)⟩,
  ⟨(some 59), 0, none, .ld (.t 4) (some 2)⟩,
  ⟨(some 60), 0, none, .ld (.t 8) (some 2)⟩,
  ⟨(some 61), 14, none, .bsl 2 [(.t 58), (.t 59), (.t 60)]⟩,
  ⟨(some 2), 0, none, .mv (.t 61)⟩]) .ret) (.seq (.reg [⟨(some 63), 0, none, .bin .eql (.t 19) (.c (.int .i64 14))⟩,
  ⟨(some 62), 0, none, .mv (.t 63)⟩]) (.cond (.t 62) (.seq (.reg [⟨(some 64), 0, none, .ld (.t 3) (some 2)⟩,
  ⟨(some 65), 0, none, .ld (.t 4) (some 2)⟩,
  ⟨(some 66), 0, none, .ld (.t 10) (some 2)⟩,
  ⟨(some 67), 15, none, .bsl 2 [(.t 64), (.t 65), (.t 66)]⟩,
  ⟨(some 2), 0, none, .mv (.t 67)⟩]) .ret) (.seq (.reg [⟨(some 69), 0, none, .bin .eql (.t 19) (.c (.int .i64 15))⟩,
  ⟨(some 68), 0, none, .mv (.t 69)⟩]) (.cond (.t 68) (.seq (.reg [⟨(some 70), 0, none, .ld (.t 8) (some 2)⟩,
  ⟨(some 71), 0, none, .ld (.t 9) (some 2)⟩,
  ⟨(some 72), 0, none, .ld (.t 10) (some 2)⟩,
  ⟨(some 73), 16, none, .bsl 2 [(.t 70), (.t 71), (.t 72)]⟩,
  ⟨(some 2), 0, none, .mv (.t 73)⟩]) .ret) .skip)))))))))))))))))) (.seq (.reg [⟨(some 2), 0, none, .mv (.c .nilsl)⟩]) .ret)))))))))))
def rs57 : List (Nat × Option Nat × Mode) := [(2, none, .move 2)]
theorem chk57 : chkC Try.prog Try.f57.ntmps b57 (Try.f57.body.getD .skip) = true := by decide +kernel
theorem top57 {args : List Arg} {out : Out} (ha : args.length.ble Try.f57.ntmps = true) (h8 : args.length.ble 8 = true) (mss : List (List (Option Nat))) (hb : backOK args out.back)
    (hw : rnC Try.prog b57 (topQ rs57 args mss out) (slotsOf (argsAV argBase args 0) 0) (argsOb argBase args 0)) : CW Try.prog 57 args out :=
  CW.of Try.func57 rs57 mss (by decide +kernel) (by decide +kernel) (by decide +kernel) ha h8 chk57 hb hw
def parts8 (k : Int) : List (Nat × Nat) :=
  if k = 1 ∨ k = 2 ∨ k = 11 then [(81, 82), (84, 85)] else
  if k = 3 then [(81, 82), (84, 85), (90, 91)] else
  if k = 4 then [(81, 82), (84, 85), (86, 87), (88, 89)] else
  if k = 5 ∨ k = 7 ∨ k = 8 ∨ k = 13 then [(81, 82), (90, 91)] else
  if k = 6 ∨ k = 9 ∨ k = 10 then [(81, 82), (84, 85), (86, 87)] else
  if k = 12 then [(81, 82), (84, 85), (92, 94)] else
  if k = 14 then [(81, 82), (84, 85), (98, 100)] else
  if k = 15 then [(92, 94), (96, 97), (98, 100)] else []
def fcv (l : List (Nat × Nat)) : List CV := l.map fun p => .agg [.fn p.1, .fn p.2]
theorem kinds_cases (k : Int) : (k = 1 ∨ k = 2 ∨ k = 3 ∨ k = 4 ∨ k = 5 ∨ k = 6 ∨ k = 7 ∨ k = 8 ∨ k = 9 ∨ k = 10 ∨ k = 11 ∨ k = 12 ∨ k = 13 ∨ k = 14 ∨ k = 15) ∨ (k < 1 ∨ 15 < k) := by omega
theorem w57_1 (Q : Ex → Slots → LH → Prop) (hQ : ∀ σ H, OwnAt 2 (fcv (parts8 1)) (Slots.get σ 2) H → Q .ret σ H) : rnC Try.prog b57 Q [(0, .c (.int .i64 1))] [] := by
  unfold b57
  simp only [go_sem, ↓reduceIte, Nat.reduceEqDiff, Nat.reduceMul, Nat.reduceAdd, Nat.reduceDiv, Nat.reduceSub, Nat.reduceLT, Nat.reduceLeDiff, Int.reduceLE, Int.reduceLT, Int.reduceToNat, Int.reduceEq]
  exact hQ _ _ (own_at rfl rfl rfl)
theorem w57_2 (Q : Ex → Slots → LH → Prop) (hQ : ∀ σ H, OwnAt 2 (fcv (parts8 2)) (Slots.get σ 2) H → Q .ret σ H) : rnC Try.prog b57 Q [(0, .c (.int .i64 2))] [] := by
  unfold b57
  simp only [go_sem, ↓reduceIte, Nat.reduceEqDiff, Nat.reduceMul, Nat.reduceAdd, Nat.reduceDiv, Nat.reduceSub, Nat.reduceLT, Nat.reduceLeDiff, Int.reduceLE, Int.reduceLT, Int.reduceToNat, Int.reduceEq]
  exact hQ _ _ (own_at rfl rfl rfl)
theorem w57_3 (Q : Ex → Slots → LH → Prop) (hQ : ∀ σ H, OwnAt 2 (fcv (parts8 3)) (Slots.get σ 2) H → Q .ret σ H) : rnC Try.prog b57 Q [(0, .c (.int .i64 3))] [] := by
  unfold b57
  simp only [go_sem, ↓reduceIte, Nat.reduceEqDiff, Nat.reduceMul, Nat.reduceAdd, Nat.reduceDiv, Nat.reduceSub, Nat.reduceLT, Nat.reduceLeDiff, Int.reduceLE, Int.reduceLT, Int.reduceToNat, Int.reduceEq]
  exact hQ _ _ (own_at rfl rfl rfl)
theorem w57_4 (Q : Ex → Slots → LH → Prop) (hQ : ∀ σ H, OwnAt 2 (fcv (parts8 4)) (Slots.get σ 2) H → Q .ret σ H) : rnC Try.prog b57 Q [(0, .c (.int .i64 4))] [] := by
  unfold b57
  simp only [go_sem, ↓reduceIte, Nat.reduceEqDiff, Nat.reduceMul, Nat.reduceAdd, Nat.reduceDiv, Nat.reduceSub, Nat.reduceLT, Nat.reduceLeDiff, Int.reduceLE, Int.reduceLT, Int.reduceToNat, Int.reduceEq]
  exact hQ _ _ (own_at rfl rfl rfl)
theorem w57_5 (Q : Ex → Slots → LH → Prop) (hQ : ∀ σ H, OwnAt 2 (fcv (parts8 5)) (Slots.get σ 2) H → Q .ret σ H) : rnC Try.prog b57 Q [(0, .c (.int .i64 5))] [] := by
  unfold b57
  simp only [go_sem, ↓reduceIte, Nat.reduceEqDiff, Nat.reduceMul, Nat.reduceAdd, Nat.reduceDiv, Nat.reduceSub, Nat.reduceLT, Nat.reduceLeDiff, Int.reduceLE, Int.reduceLT, Int.reduceToNat, Int.reduceEq]
  exact hQ _ _ (own_at rfl rfl rfl)
theorem w57_6 (Q : Ex → Slots → LH → Prop) (hQ : ∀ σ H, OwnAt 2 (fcv (parts8 6)) (Slots.get σ 2) H → Q .ret σ H) : rnC Try.prog b57 Q [(0, .c (.int .i64 6))] [] := by
  unfold b57
  simp only [go_sem, ↓reduceIte, Nat.reduceEqDiff, Nat.reduceMul, Nat.reduceAdd, Nat.reduceDiv, Nat.reduceSub, Nat.reduceLT, Nat.reduceLeDiff, Int.reduceLE, Int.reduceLT, Int.reduceToNat, Int.reduceEq]
  exact hQ _ _ (own_at rfl rfl rfl)
theorem w57_7 (Q : Ex → Slots → LH → Prop) (hQ : ∀ σ H, OwnAt 2 (fcv (parts8 7)) (Slots.get σ 2) H → Q .ret σ H) : rnC Try.prog b57 Q [(0, .c (.int .i64 7))] [] := by
  unfold b57
  simp only [go_sem, ↓reduceIte, Nat.reduceEqDiff, Nat.reduceMul, Nat.reduceAdd, Nat.reduceDiv, Nat.reduceSub, Nat.reduceLT, Nat.reduceLeDiff, Int.reduceLE, Int.reduceLT, Int.reduceToNat, Int.reduceEq]
  exact hQ _ _ (own_at rfl rfl rfl)
theorem w57_8 (Q : Ex → Slots → LH → Prop) (hQ : ∀ σ H, OwnAt 2 (fcv (parts8 8)) (Slots.get σ 2) H → Q .ret σ H) : rnC Try.prog b57 Q [(0, .c (.int .i64 8))] [] := by
  unfold b57
  simp only [go_sem, ↓reduceIte, Nat.reduceEqDiff, Nat.reduceMul, Nat.reduceAdd, Nat.reduceDiv, Nat.reduceSub, Nat.reduceLT, Nat.reduceLeDiff, Int.reduceLE, Int.reduceLT, Int.reduceToNat, Int.reduceEq]
  exact hQ _ _ (own_at rfl rfl rfl)
theorem w57_9 (Q : Ex → Slots → LH → Prop) (hQ : ∀ σ H, OwnAt 2 (fcv (parts8 9)) (Slots.get σ 2) H → Q .ret σ H) : rnC Try.prog b57 Q [(0, .c (.int .i64 9))] [] := by
  unfold b57
  simp only [go_sem, ↓reduceIte, Nat.reduceEqDiff, Nat.reduceMul, Nat.reduceAdd, Nat.reduceDiv, Nat.reduceSub, Nat.reduceLT, Nat.reduceLeDiff, Int.reduceLE, Int.reduceLT, Int.reduceToNat, Int.reduceEq]
  exact hQ _ _ (own_at rfl rfl rfl)
theorem w57_10 (Q : Ex → Slots → LH → Prop) (hQ : ∀ σ H, OwnAt 2 (fcv (parts8 10)) (Slots.get σ 2) H → Q .ret σ H) : rnC Try.prog b57 Q [(0, .c (.int .i64 10))] [] := by
  unfold b57
  simp only [go_sem, ↓reduceIte, Nat.reduceEqDiff, Nat.reduceMul, Nat.reduceAdd, Nat.reduceDiv, Nat.reduceSub, Nat.reduceLT, Nat.reduceLeDiff, Int.reduceLE, Int.reduceLT, Int.reduceToNat, Int.reduceEq]
  exact hQ _ _ (own_at rfl rfl rfl)
theorem w57_11 (Q : Ex → Slots → LH → Prop) (hQ : ∀ σ H, OwnAt 2 (fcv (parts8 11)) (Slots.get σ 2) H → Q .ret σ H) : rnC Try.prog b57 Q [(0, .c (.int .i64 11))] [] := by
  unfold b57
  simp only [go_sem, ↓reduceIte, Nat.reduceEqDiff, Nat.reduceMul, Nat.reduceAdd, Nat.reduceDiv, Nat.reduceSub, Nat.reduceLT, Nat.reduceLeDiff, Int.reduceLE, Int.reduceLT, Int.reduceToNat, Int.reduceEq]
  exact hQ _ _ (own_at rfl rfl rfl)
theorem w57_12 (Q : Ex → Slots → LH → Prop) (hQ : ∀ σ H, OwnAt 2 (fcv (parts8 12)) (Slots.get σ 2) H → Q .ret σ H) : rnC Try.prog b57 Q [(0, .c (.int .i64 12))] [] := by
  unfold b57
  simp only [go_sem, ↓reduceIte, Nat.reduceEqDiff, Nat.reduceMul, Nat.reduceAdd, Nat.reduceDiv, Nat.reduceSub, Nat.reduceLT, Nat.reduceLeDiff, Int.reduceLE, Int.reduceLT, Int.reduceToNat, Int.reduceEq]
  exact hQ _ _ (own_at rfl rfl rfl)
theorem w57_13 (Q : Ex → Slots → LH → Prop) (hQ : ∀ σ H, OwnAt 2 (fcv (parts8 13)) (Slots.get σ 2) H → Q .ret σ H) : rnC Try.prog b57 Q [(0, .c (.int .i64 13))] [] := by
  unfold b57
  simp only [go_sem, ↓reduceIte, Nat.reduceEqDiff, Nat.reduceMul, Nat.reduceAdd, Nat.reduceDiv, Nat.reduceSub, Nat.reduceLT, Nat.reduceLeDiff, Int.reduceLE, Int.reduceLT, Int.reduceToNat, Int.reduceEq]
  exact hQ _ _ (own_at rfl rfl rfl)
theorem w57_14 (Q : Ex → Slots → LH → Prop) (hQ : ∀ σ H, OwnAt 2 (fcv (parts8 14)) (Slots.get σ 2) H → Q .ret σ H) : rnC Try.prog b57 Q [(0, .c (.int .i64 14))] [] := by
  unfold b57
  simp only [go_sem, ↓reduceIte, Nat.reduceEqDiff, Nat.reduceMul, Nat.reduceAdd, Nat.reduceDiv, Nat.reduceSub, Nat.reduceLT, Nat.reduceLeDiff, Int.reduceLE, Int.reduceLT, Int.reduceToNat, Int.reduceEq]
  exact hQ _ _ (own_at rfl rfl rfl)
theorem w57_15 (Q : Ex → Slots → LH → Prop) (hQ : ∀ σ H, OwnAt 2 (fcv (parts8 15)) (Slots.get σ 2) H → Q .ret σ H) : rnC Try.prog b57 Q [(0, .c (.int .i64 15))] [] := by
  unfold b57
  simp only [go_sem, ↓reduceIte, Nat.reduceEqDiff, Nat.reduceMul, Nat.reduceAdd, Nat.reduceDiv, Nat.reduceSub, Nat.reduceLT, Nat.reduceLeDiff, Int.reduceLE, Int.reduceLT, Int.reduceToNat, Int.reduceEq]
  exact hQ _ _ (own_at rfl rfl rfl)
theorem w57_n (k : Int) (h : k < 1 ∨ 15 < k) (Q : Ex → Slots → LH → Prop) (hQ : ∀ σ H, Slots.get σ 2 = .c .nilsl → Q .ret σ H) : rnC Try.prog b57 Q [(0, .c (.int .i64 k))] [] := by
  unfold b57
  have h1 : (k = 1) = False := by simp only [eq_iff_iff, iff_false]; omega
  have h2 : (k = 2) = False := by simp only [eq_iff_iff, iff_false]; omega
  have h3 : (k = 3) = False := by simp only [eq_iff_iff, iff_false]; omega
  have h4 : (k = 4) = False := by simp only [eq_iff_iff, iff_false]; omega
  have h5 : (k = 5) = False := by simp only [eq_iff_iff, iff_false]; omega
  have h6 : (k = 6) = False := by simp only [eq_iff_iff, iff_false]; omega
  have h7 : (k = 7) = False := by simp only [eq_iff_iff, iff_false]; omega
  have h8 : (k = 8) = False := by simp only [eq_iff_iff, iff_false]; omega
  have h9 : (k = 9) = False := by simp only [eq_iff_iff, iff_false]; omega
  have h10 : (k = 10) = False := by simp only [eq_iff_iff, iff_false]; omega
  have h11 : (k = 11) = False := by simp only [eq_iff_iff, iff_false]; omega
  have h12 : (k = 12) = False := by simp only [eq_iff_iff, iff_false]; omega
  have h13 : (k = 13) = False := by simp only [eq_iff_iff, iff_false]; omega
  have h14 : (k = 14) = False := by simp only [eq_iff_iff, iff_false]; omega
  have h15 : (k = 15) = False := by simp only [eq_iff_iff, iff_false]; omega
  simp only [go_sem, ↓reduceIte, Nat.reduceEqDiff, Nat.reduceMul, Nat.reduceAdd, Nat.reduceDiv, Nat.reduceSub, Nat.reduceLT, Nat.reduceLeDiff, Int.reduceLE, Int.reduceLT, Int.reduceToNat, Int.reduceEq, h1, h2, h3, h4, h5, h6, h7, h8, h9, h10, h11, h12, h13, h14, h15]
  exact hQ _ _ rfl
theorem parts8_none {k : Int} (h : k < 1 ∨ 15 < k) : parts8 k = [] := by unfold parts8; repeat rw [if_neg (by omega)]
theorem parts8_nil {k : Int} (h : parts8 k = []) : k < 1 ∨ 15 < k := by
  rcases kinds_cases k with (e | e | e | e | e | e | e | e | e | e | e | e | e | e | e) | e
  all_goals first | exact e | (subst e; exact absurd h (by decide))
theorem w57_0 (k : Int) (h : k < 1 ∨ 15 < k) (Q : Ex → Slots → LH → Prop) (hQ : ∀ σ H, OwnAt 2 (fcv (parts8 k)) (Slots.get σ 2) H → Q .ret σ H) : rnC Try.prog b57 Q [(0, .c (.int .i64 k))] [] :=
  w57_n k h Q fun σ H e => hQ σ H (.inl ⟨e, by rw [parts8_none h]; rfl⟩)
theorem cw57n (k : Int) (h : k < 1 ∨ 15 < k) : CW Try.prog 57 [.cv (.int .i64 k)] ⟨[.cv .nilsl], []⟩ :=
  CW.of Try.func57 [(2, none, .plain)] [] (by decide +kernel) (by decide +kernel) (by decide +kernel) rfl rfl chk57 trivial (w57_n k h _ fun σ H h => ret1 rfl h)
theorem w57 (k : Int) (Q : Ex → Slots → LH → Prop) (hQ : ∀ σ H, OwnAt 2 (fcv (parts8 k)) (Slots.get σ 2) H → Q .ret σ H) : rnC Try.prog b57 Q [(0, .c (.int .i64 k))] [] := by
  unfold b57
  show rnC Try.prog b57 _ _ _
  rcases kinds_cases k with (h | h | h | h | h | h | h | h | h | h | h | h | h | h | h) | h
  · subst h; exact w57_1 Q hQ
  · subst h; exact w57_2 Q hQ
  · subst h; exact w57_3 Q hQ
  · subst h; exact w57_4 Q hQ
  · subst h; exact w57_5 Q hQ
  · subst h; exact w57_6 Q hQ
  · subst h; exact w57_7 Q hQ
  · subst h; exact w57_8 Q hQ
  · subst h; exact w57_9 Q hQ
  · subst h; exact w57_10 Q hQ
  · subst h; exact w57_11 Q hQ
  · subst h; exact w57_12 Q hQ
  · subst h; exact w57_13 Q hQ
  · subst h; exact w57_14 Q hQ
  · subst h; exact w57_15 Q hQ
  · exact w57_0 k h Q hQ
theorem cw57 (k : Int) : CW Try.prog 57 [.cv (.int .i64 k)] ⟨[.own 2 (fcv (parts8 k))], []⟩ :=
  top57 rfl rfl [] trivial (w57 k _ fun σ H h => retO rfl h)
def b107 : IC := (.seq (.reg [⟨(some 1), 1, none, .box (.t 0)⟩,
  ⟨(some 2), 0, none, .mv (.c (.int .i64 0))⟩]) (.seq (.seq (.reg [⟨(some 3), 0, none, .fa (.t 1) 0⟩,
  ⟨(some 4), 0, none, .ld (.t 3) none⟩,
  ⟨(some 5), 0, none, .bin .eql (.t 4) (.c (.int .i64 4))⟩]) (.cond (.t 5) (.seq (.reg [⟨(some 6), 0, none, .fa (.t 1) 3⟩,
  ⟨(some 7), 0, none, .ld (.t 6) none⟩,
  ⟨(some 8), 0, none, .mx (.t 7) (.c (.int .i64 0))⟩,
  ⟨(some 2), 0, none, .mv (.t 8)⟩]) .ret) .skip)) (.seq (.reg [⟨(some 2), 0, none, .mv (.c (.int .i64 1))⟩]) .ret)))
def rs107 : List (Nat × Option Nat × Mode) := [(2, none, .plain)]
theorem chk107 : chkC Try.prog Try.f107.ntmps b107 (Try.f107.body.getD .skip) = true := by decide +kernel
theorem top107 {args : List Arg} {out : Out} (ha : args.length.ble Try.f107.ntmps = true) (h8 : args.length.ble 8 = true) (mss : List (List (Option Nat))) (hb : backOK args out.back)
    (hw : rnC Try.prog b107 (topQ rs107 args mss out) (slotsOf (argsAV argBase args 0) 0) (argsOb argBase args 0)) : CW Try.prog 107 args out :=
  CW.of Try.func107 rs107 mss (by decide +kernel) (by decide +kernel) (by decide +kernel) ha h8 chk107 hb hw
def b137 : IC := (.seq (.reg [⟨(some 2), 0, none, .mv (.c (.int .i64 0))⟩]) (.seq (.seq (.reg [⟨(some 4), 0, none, .mv (.t 0)⟩,
  ⟨(some 5), 0, none, .mv (.t 0)⟩,
  ⟨(some 6), 0, none, .bin .neq (.t 4) (.t 5)⟩]) (.cond (.t 6) (.seq (.reg [⟨(some 2), 0, none, .mv (.c (.int .i64 9223372036854775807))⟩]) .ret) .skip)) (.seq (.reg [⟨(some 7), 0, none, .mv (.t 0)⟩,
  ⟨(some 8), 1, none, .call (.c (.fn 69)) [((.t 7), .plain)]⟩,
  ⟨(some 9), 0, none, .conv .i64 (.t 8)⟩,
  ⟨(some 3), 0, none, .mv (.t 9)⟩]) (.seq (.seq (.reg [⟨(some 10), 0, none, .mv (.t 3)⟩,
  ⟨(some 11), 0, none, .bin .lss (.t 10) (.c (.int .i64 0))⟩]) (.cond (.t 11) (.seq (.reg [⟨(some 12), 0, none, .mv (.t 3)⟩,
  ⟨(some 13), 0, none, .bin .sub (.c (.int .i64 (-9223372036854775808))) (.t 12)⟩,
  ⟨(some 14), 0, none, .bin .sub (.t 13) (.c (.int .i64 1))⟩,
  ⟨(some 2), 0, none, .mv (.t 14)⟩]) .ret) .skip)) (.seq (.reg [⟨(some 15), 0, none, .mv (.t 3)⟩,
  ⟨(some 2), 0, none, .mv (.t 15)⟩]) .ret)))))
def rs137 : List (Nat × Option Nat × Mode) := [(2, none, .plain)]
theorem chk137 : chkC Try.prog Try.f137.ntmps b137 (Try.f137.body.getD .skip) = true := by decide +kernel
theorem top137 {args : List Arg} {out : Out} (ha : args.length.ble Try.f137.ntmps = true) (h8 : args.length.ble 8 = true) (mss : List (List (Option Nat))) (hb : backOK args out.back)
    (hw : rnC Try.prog b137 (topQ rs137 args mss out) (slotsOf (argsAV argBase args 0) 0) (argsOb argBase args 0)) : CW Try.prog 137 args out :=
  CW.of Try.func137 rs137 mss (by decide +kernel) (by decide +kernel) (by decide +kernel) ha h8 chk137 hb hw
def b132 : IC := (.seq (.reg [⟨(some 4), 0, none, .mv (.c (.int .i64 0))⟩]) (.seq (.reg [⟨(some 7), 0, none, .mv (.t 0)⟩,
  ⟨(some 8), 1, none, .call (.c (.fn 137)) [((.t 7), .plain)]⟩,
  ⟨(some 9), 0, none, .mv (.t 1)⟩,
  ⟨(some 10), 11, none, .call (.c (.fn 137)) [((.t 9), .plain)]⟩,
  ⟨(some 5), 0, none, .mv (.t 8)⟩,
  ⟨(some 6), 0, none, .mv (.t 10)⟩]) (.seq (.block 0 (.seq (.reg [⟨(some 12), 0, none, .mv (.t 5)⟩,
  ⟨(some 13), 0, none, .mv (.t 6)⟩,
  ⟨(some 14), 0, none, .bin .lss (.t 12) (.t 13)⟩,
  ⟨(some 11), 0, none, .mv (.t 14)⟩]) (.cond (.t 11) (.seq (.reg [⟨(some 4), 0, none, .mv (.c (.int .i64 (-1)))⟩]) .ret) (.seq (.reg [⟨(some 16), 0, none, .mv (.t 5)⟩,
  ⟨(some 17), 0, none, .mv (.t 6)⟩,
  ⟨(some 18), 0, none, .bin .gtr (.t 16) (.t 17)⟩,
  ⟨(some 15), 0, none, .mv (.t 18)⟩]) (.cond (.t 15) (.seq (.reg [⟨(some 4), 0, none, .mv (.c (.int .i64 1))⟩]) .ret) .skip))))) (.seq (.reg [⟨(some 4), 0, none, .mv (.c (.int .i64 0))⟩]) .ret))))
def rs132 : List (Nat × Option Nat × Mode) := [(4, none, .plain)]
theorem chk132 : chkC Try.prog Try.f132.ntmps b132 (Try.f132.body.getD .skip) = true := by decide +kernel
theorem top132 {args : List Arg} {out : Out} (ha : args.length.ble Try.f132.ntmps = true) (h8 : args.length.ble 8 = true) (mss : List (List (Option Nat))) (hb : backOK args out.back)
    (hw : rnC Try.prog b132 (topQ rs132 args mss out) (slotsOf (argsAV argBase args 0) 0) (argsOb argBase args 0)) : CW Try.prog 132 args out :=
  CW.of Try.func132 rs132 mss (by decide +kernel) (by decide +kernel) (by decide +kernel) ha h8 chk132 hb hw
def b115 : IC := (.seq (.reg [⟨(some 2), 0, none, .mv (.c (.bool false))⟩]) (.seq (.reg [⟨(some 3), 0, none, .mv (.t 0)⟩,
  ⟨(some 4), 0, none, .bin .geq (.t 3) (.c (.int .i32 0))⟩,
  ⟨(some 5), 0, none, .mv (.t 4)⟩,
  ⟨(some 6), 0, (some (5, true)), .mv (.t 0)⟩,
  ⟨(some 7), 0, (some (5, true)), .bin .leq (.t 6) (.c (.int .i32 55295))⟩,
  ⟨(some 8), 0, none, .pick (.t 5) (.t 7) (.c (.bool false))⟩,
  ⟨(some 9), 0, none, .mv (.t 8)⟩,
  ⟨(some 10), 0, (some (9, false)), .mv (.t 0)⟩,
  ⟨(some 11), 0, (some (9, false)), .bin .geq (.t 10) (.c (.int .i32 57344))⟩,
  ⟨(some 12), 0, (some (9, false)), .mv (.t 11)⟩,
  ⟨(some 13), 0, (some (12, true)), .mv (.t 0)⟩,
  ⟨(some 14), 0, (some (12, true)), .bin .leq (.t 13) (.c (.int .i32 1114111))⟩,
  ⟨(some 15), 0, (some (9, false)), .pick (.t 12) (.t 14) (.c (.bool false))⟩,
  ⟨(some 16), 0, none, .pick (.t 9) (.c (.bool true)) (.t 15)⟩,
  ⟨(some 2), 0, none, .mv (.t 16)⟩]) .ret))
def rs115 : List (Nat × Option Nat × Mode) := [(2, none, .plain)]
theorem chk115 : chkC Try.prog Try.f115.ntmps b115 (Try.f115.body.getD .skip) = true := by decide +kernel
theorem top115 {args : List Arg} {out : Out} (ha : args.length.ble Try.f115.ntmps = true) (h8 : args.length.ble 8 = true) (mss : List (List (Option Nat))) (hb : backOK args out.back)
    (hw : rnC Try.prog b115 (topQ rs115 args mss out) (slotsOf (argsAV argBase args 0) 0) (argsOb argBase args 0)) : CW Try.prog 115 args out :=
  CW.of Try.func115 rs115 mss (by decide +kernel) (by decide +kernel) (by decide +kernel) ha h8 chk115 hb hw
def b67 : IC := (.seq (.reg [⟨(some 2), 0, none, .mv (.c (.int .i64 0))⟩]) (.seq (.seq (.reg [⟨(some 3), 0, none, .mv (.t 0)⟩,
  ⟨(some 4), 0, none, .bin .lss (.t 3) (.c (.int .i64 1))⟩,
  ⟨(some 5), 0, none, .mv (.t 4)⟩,
  ⟨(some 6), 0, (some (5, false)), .mv (.t 0)⟩,
  ⟨(some 7), 0, (some (5, false)), .bin .gtr (.t 6) (.c (.int .i64 15))⟩,
  ⟨(some 8), 0, none, .pick (.t 5) (.c (.bool true)) (.t 7)⟩]) (.cond (.t 8) (.seq (.reg [⟨(some 2), 0, none, .mv (.c (.int .i64 0))⟩]) .ret) .skip)) (.seq (.reg [⟨(some 9), 0, none, .bld [(.int .i64 0), (.int .i64 0), (.int .i64 0), (.int .i64 0), (.int .i64 0), (.int .i64 0), (.int .i64 0), (.int .i64 0), (.int .i64 0), (.int .i64 0), (.int .i64 0), (.int .i64 0), (.int .i64 0), (.int .i64 0), (.int .i64 0), (.int .i64 0)] [(0, (.c (.int .i64 0))), (1, (.c (.int .i64 1))), (2, (.c (.int .i64 1))), (3, (.c (.int .i64 1))), (4, (.c (.int .i64 1))), (5, (.c (.int .i64 1))), (6, (.c (.int .i64 2))), (7, (.c (.int .i64 3))), (8, (.c (.int .i64 3))), (9, (.c (.int .i64 4))), (10, (.c (.int .i64 5))), (11, (.c (.int .i64 6))), (12, (.c (.int .i64 7))), (13, (.c (.int .i64 8))), (14, (.c (.int .i64 9))), (15, (.c (.int .i64 10)))]⟩,
  ⟨(some 10), 0, none, .mv (.t 0)⟩,
  ⟨(some 11), 0, none, .aidx 16 (.t 9) (.t 10)⟩,
  ⟨(some 2), 0, none, .mv (.t 11)⟩]) .ret)))
def rs67 : List (Nat × Option Nat × Mode) := [(2, none, .plain)]
theorem chk67 : chkC Try.prog Try.f67.ntmps b67 (Try.f67.body.getD .skip) = true := by decide +kernel
theorem top67 {args : List Arg} {out : Out} (ha : args.length.ble Try.f67.ntmps = true) (h8 : args.length.ble 8 = true) (mss : List (List (Option Nat))) (hb : backOK args out.back)
    (hw : rnC Try.prog b67 (topQ rs67 args mss out) (slotsOf (argsAV argBase args 0) 0) (argsOb argBase args 0)) : CW Try.prog 67 args out :=
  CW.of Try.func67 rs67 mss (by decide +kernel) (by decide +kernel) (by decide +kernel) ha h8 chk67 hb hw
def b112 : IC := (.seq (.reg [⟨(some 6), 1, none, .box (.t 0)⟩,
  ⟨(some 12), 0, none, .mv (.c (.bool false))⟩]) (.seq (.reg [⟨(some 13), 0, none, .mv (.t 1)⟩,
  ⟨(some 14), 0, none, .mv (.t 13)⟩,
  ⟨(some 15), 0, (some (14, false)), .fa (.t 6) 3⟩,
  ⟨(some 16), 0, (some (14, false)), .ld (.t 15) none⟩,
  ⟨(some 17), 0, (some (14, false)), .bin .eql (.t 16) (.c (.int .i64 0))⟩,
  ⟨(some 18), 0, none, .pick (.t 14) (.c (.bool true)) (.t 17)⟩,
  ⟨(some 19), 0, none, .mv (.t 18)⟩,
  ⟨(some 20), 0, (some (19, true)), .mv (.t 2)⟩,
  ⟨(some 21), 0, (some (19, true)), .mv (.t 20)⟩,
  ⟨(some 22), 0, (some (21, false)), .fa (.t 6) 4⟩,
  ⟨(some 23), 0, (some (21, false)), .ld (.t 22) none⟩,
  ⟨(some 24), 0, (some (21, false)), .len false (.t 23)⟩,
  ⟨(some 25), 0, (some (21, false)), .bin .eql (.t 24) (.c (.int .i64 0))⟩,
  ⟨(some 26), 0, (some (19, true)), .pick (.t 21) (.c (.bool true)) (.t 25)⟩,
  ⟨(some 27), 0, none, .pick (.t 19) (.t 26) (.c (.bool false))⟩,
  ⟨(some 28), 0, none, .mv (.t 27)⟩,
  ⟨(some 29), 0, (some (28, true)), .mv (.t 3)⟩,
  ⟨(some 30), 0, (some (28, true)), .mv (.t 29)⟩,
  ⟨(some 31), 0, (some (30, false)), .fa (.t 6) 5⟩,
  ⟨(some 32), 0, (some (30, false)), .ld (.t 31) none⟩,
  ⟨(some 33), 0, (some (30, false)), .bin .eql (.t 32) (.c (.str ⟨#[]⟩))⟩,
  ⟨(some 34), 0, (some (28, true)), .pick (.t 30) (.c (.bool true)) (.t 33)⟩,
  ⟨(some 35), 0, none, .pick (.t 28) (.t 34) (.c (.bool false))⟩,
  ⟨(some 36), 0, none, .mv (.t 35)⟩,
  ⟨(some 37), 0, (some (36, true)), .mv (.t 4)⟩,
  ⟨(some 38), 0, (some (36, true)), .mv (.t 37)⟩,
  ⟨(some 39), 0, (some (38, false)), .fa (.t 6) 6⟩,
  ⟨(some 40), 0, (some (38, false)), .ld (.t 39) none⟩,
  ⟨(some 41), 0, (some (38, false)), .bin .eql (.t 40) (.c (.str ⟨#[]⟩))⟩,
  ⟨(some 42), 0, (some (36, true)), .pick (.t 38) (.c (.bool true)) (.t 41)⟩,
  ⟨(some 43), 0, none, .pick (.t 36) (.t 42) (.c (.bool false))⟩,
  ⟨(some 44), 0, none, .mv (.t 43)⟩,
  ⟨(some 45), 0, (some (44, true)), .mv (.t 5)⟩,
  ⟨(some 46), 0, (some (44, true)), .mv (.t 45)⟩,
  ⟨(some 47), 0, (some (46, false)), .fa (.t 6) 7⟩,
  ⟨(some 48), 0, (some (46, false)), .ld (.t 47) none⟩,
  ⟨(some 49), 2, (some (46, false)), .call (.c (.fn 69)) [((.t 48), .plain)]⟩,
  ⟨(some 50), 0, (some (46, false)), .bin .eql (.t 49) (.c (.int .u64 0))⟩,
  ⟨(some 51), 0, (some (44, true)), .pick (.t 46) (.c (.bool true)) (.t 50)⟩,
  ⟨(some 52), 0, none, .pick (.t 44) (.t 51) (.c (.bool false))⟩,
  ⟨(some 12), 0, none, .mv (.t 52)⟩]) .ret))
def rs112 : List (Nat × Option Nat × Mode) := [(12, none, .plain)]
theorem chk112 : chkC Try.prog Try.f112.ntmps b112 (Try.f112.body.getD .skip) = true := by decide +kernel
theorem top112 {args : List Arg} {out : Out} (ha : args.length.ble Try.f112.ntmps = true) (h8 : args.length.ble 8 = true) (mss : List (List (Option Nat))) (hb : backOK args out.back)
    (hw : rnC Try.prog b112 (topQ rs112 args mss out) (slotsOf (argsAV argBase args 0) 0) (argsOb argBase args 0)) : CW Try.prog 112 args out :=
  CW.of Try.func112 rs112 mss (by decide +kernel) (by decide +kernel) (by decide +kernel) ha h8 chk112 hb hw
def b114 : IC := (.seq (.reg [⟨(some 2), 0, none, .mv (.c (.bool false))⟩]) (.seq (.reg [⟨(some 4), 0, none, .mv (.t 0)⟩,
  ⟨(some 5), 1, none, .call (.c (.fn 69)) [((.t 4), .plain)]⟩,
  ⟨(some 3), 0, none, .mv (.t 5)⟩]) (.seq (.reg [⟨(some 6), 0, none, .mv (.t 3)⟩,
  ⟨(some 7), 0, none, .bin .leq (.t 6) (.c (.int .u64 9218868437227405312))⟩,
  ⟨(some 2), 0, none, .mv (.t 7)⟩]) .ret)))
def rs114 : List (Nat × Option Nat × Mode) := [(2, none, .plain)]
theorem chk114 : chkC Try.prog Try.f114.ntmps b114 (Try.f114.body.getD .skip) = true := by decide +kernel
theorem top114 {args : List Arg} {out : Out} (ha : args.length.ble Try.f114.ntmps = true) (h8 : args.length.ble 8 = true) (mss : List (List (Option Nat))) (hb : backOK args out.back)
    (hw : rnC Try.prog b114 (topQ rs114 args mss out) (slotsOf (argsAV argBase args 0) 0) (argsOb argBase args 0)) : CW Try.prog 114 args out :=
  CW.of Try.func114 rs114 mss (by decide +kernel) (by decide +kernel) (by decide +kernel) ha h8 chk114 hb hw
def l113_0 : IC := (.seq (.seq (.reg [⟨(some 17), 0, none, .mv (.t 3)⟩,
  ⟨(some 18), 0, none, .bin .lss (.t 17) (.c (.int .i64 4))⟩]) (.cond (.t 18) .skip (.exit 0))) (.seq (.block 1 (.seq (.reg [⟨(some 21), 0, none, .mv (.t 0)⟩,
  ⟨(some 22), 0, none, .mv (.t 3)⟩,
  ⟨(some 23), 0, none, .sidx (.t 21) (.t 22)⟩,
  ⟨(some 24), 0, none, .bin .lss (.t 23) (.c (.int .u8 97))⟩,
  ⟨(some 25), 0, none, .mv (.t 24)⟩,
  ⟨(some 26), 0, (some (25, false)), .mv (.t 0)⟩,
  ⟨(some 27), 0, (some (25, false)), .mv (.t 3)⟩,
  ⟨(some 28), 0, (some (25, false)), .sidx (.t 26) (.t 27)⟩,
  ⟨(some 29), 0, (some (25, false)), .bin .gtr (.t 28) (.c (.int .u8 122))⟩,
  ⟨(some 30), 0, none, .pick (.t 25) (.c (.bool true)) (.t 29)⟩]) (.cond (.t 30) (.seq (.reg [⟨(some 2), 0, none, .mv (.c (.bool false))⟩]) .ret) .skip))) (.reg [⟨(some 19), 0, none, .mv (.t 3)⟩,
  ⟨(some 20), 0, none, .bin .add (.t 19) (.c (.int .i64 1))⟩,
  ⟨(some 3), 0, none, .mv (.t 20)⟩])))
def n113_0 : Norm := ⟨[(0, .plain), (3, .plain)], []⟩
def b113 : IC := (.seq (.reg [⟨(some 2), 0, none, .mv (.c (.bool false))⟩]) (.seq (.seq (.reg [⟨(some 4), 0, none, .mv (.t 0)⟩,
  ⟨(some 5), 0, none, .len true (.t 4)⟩,
  ⟨(some 6), 0, none, .bin .neq (.t 5) (.c (.int .i64 4))⟩,
  ⟨(some 7), 0, none, .mv (.t 6)⟩,
  ⟨(some 8), 0, (some (7, false)), .mv (.t 0)⟩,
  ⟨(some 9), 0, (some (7, false)), .sidx (.t 8) (.c (.int .i64 0))⟩,
  ⟨(some 10), 0, (some (7, false)), .bin .lss (.t 9) (.c (.int .u8 65))⟩,
  ⟨(some 11), 0, none, .pick (.t 7) (.c (.bool true)) (.t 10)⟩,
  ⟨(some 12), 0, none, .mv (.t 11)⟩,
  ⟨(some 13), 0, (some (12, false)), .mv (.t 0)⟩,
  ⟨(some 14), 0, (some (12, false)), .sidx (.t 13) (.c (.int .i64 0))⟩,
  ⟨(some 15), 0, (some (12, false)), .bin .gtr (.t 14) (.c (.int .u8 90))⟩,
  ⟨(some 16), 0, none, .pick (.t 12) (.c (.bool true)) (.t 15)⟩]) (.cond (.t 16) (.seq (.reg [⟨(some 2), 0, none, .mv (.c (.bool false))⟩]) .ret) .skip)) (.seq (.seq (.reg [⟨(some 3), 0, none, .mv (.c (.int .i64 1))⟩]) (.block 0 (.loop n113_0 l113_0))) (.seq (.reg [⟨(some 2), 0, none, .mv (.c (.bool true))⟩]) .ret))))
def rs113 : List (Nat × Option Nat × Mode) := [(2, none, .plain)]
theorem chk113 : chkC Try.prog Try.f113.ntmps b113 (Try.f113.body.getD .skip) = true := by decide +kernel
theorem top113 {args : List Arg} {out : Out} (ha : args.length.ble Try.f113.ntmps = true) (h8 : args.length.ble 8 = true) (mss : List (List (Option Nat))) (hb : backOK args out.back)
    (hw : rnC Try.prog b113 (topQ rs113 args mss out) (slotsOf (argsAV argBase args 0) 0) (argsOb argBase args 0)) : CW Try.prog 113 args out :=
  CW.of Try.func113 rs113 mss (by decide +kernel) (by decide +kernel) (by decide +kernel) ha h8 chk113 hb hw
def l122_0 : IC := (.seq (.seq (.reg [⟨(some 17), 0, none, .mv (.t 3)⟩,
  ⟨(some 18), 0, none, .bin .lss (.t 17) (.c (.int .i64 4))⟩]) (.cond (.t 18) .skip (.exit 0))) (.seq (.block 1 (.seq (.reg [⟨(some 21), 0, none, .mv (.t 0)⟩,
  ⟨(some 22), 0, none, .mv (.t 3)⟩,
  ⟨(some 23), 0, none, .sidx (.t 21) (.t 22)⟩,
  ⟨(some 24), 0, none, .bin .lss (.t 23) (.c (.int .u8 97))⟩,
  ⟨(some 25), 0, none, .mv (.t 24)⟩,
  ⟨(some 26), 0, (some (25, false)), .mv (.t 0)⟩,
  ⟨(some 27), 0, (some (25, false)), .mv (.t 3)⟩,
  ⟨(some 28), 0, (some (25, false)), .sidx (.t 26) (.t 27)⟩,
  ⟨(some 29), 0, (some (25, false)), .bin .gtr (.t 28) (.c (.int .u8 122))⟩,
  ⟨(some 30), 0, none, .pick (.t 25) (.c (.bool true)) (.t 29)⟩]) (.cond (.t 30) (.seq (.reg [⟨(some 2), 0, none, .mv (.c (.bool false))⟩]) .ret) .skip))) (.reg [⟨(some 19), 0, none, .mv (.t 3)⟩,
  ⟨(some 20), 0, none, .bin .add (.t 19) (.c (.int .i64 1))⟩,
  ⟨(some 3), 0, none, .mv (.t 20)⟩])))
def n122_0 : Norm := ⟨[(0, .plain), (3, .plain)], []⟩
def b122 : IC := (.seq (.reg [⟨(some 2), 0, none, .mv (.c (.bool false))⟩]) (.seq (.seq (.reg [⟨(some 4), 0, none, .mv (.t 0)⟩,
  ⟨(some 5), 0, none, .len true (.t 4)⟩,
  ⟨(some 6), 0, none, .bin .neq (.t 5) (.c (.int .i64 4))⟩,
  ⟨(some 7), 0, none, .mv (.t 6)⟩,
  ⟨(some 8), 0, (some (7, false)), .mv (.t 0)⟩,
  ⟨(some 9), 0, (some (7, false)), .sidx (.t 8) (.c (.int .i64 0))⟩,
  ⟨(some 10), 0, (some (7, false)), .bin .lss (.t 9) (.c (.int .u8 65))⟩,
  ⟨(some 11), 0, none, .pick (.t 7) (.c (.bool true)) (.t 10)⟩,
  ⟨(some 12), 0, none, .mv (.t 11)⟩,
  ⟨(some 13), 0, (some (12, false)), .mv (.t 0)⟩,
  ⟨(some 14), 0, (some (12, false)), .sidx (.t 13) (.c (.int .i64 0))⟩,
  ⟨(some 15), 0, (some (12, false)), .bin .gtr (.t 14) (.c (.int .u8 90))⟩,
  ⟨(some 16), 0, none, .pick (.t 12) (.c (.bool true)) (.t 15)⟩]) (.cond (.t 16) (.seq (.reg [⟨(some 2), 0, none, .mv (.c (.bool false))⟩]) .ret) .skip)) (.seq (.seq (.reg [⟨(some 3), 0, none, .mv (.c (.int .i64 1))⟩]) (.block 0 (.loop n122_0 l122_0))) (.seq (.reg [⟨(some 2), 0, none, .mv (.c (.bool true))⟩]) .ret))))
def rs122 : List (Nat × Option Nat × Mode) := [(2, none, .plain)]
theorem chk122 : chkC Try.prog Try.f122.ntmps b122 (Try.f122.body.getD .skip) = true := by decide +kernel
theorem top122 {args : List Arg} {out : Out} (ha : args.length.ble Try.f122.ntmps = true) (h8 : args.length.ble 8 = true) (mss : List (List (Option Nat))) (hb : backOK args out.back)
    (hw : rnC Try.prog b122 (topQ rs122 args mss out) (slotsOf (argsAV argBase args 0) 0) (argsOb argBase args 0)) : CW Try.prog 122 args out :=
  CW.of Try.func122 rs122 mss (by decide +kernel) (by decide +kernel) (by decide +kernel) ha h8 chk122 hb hw
def b123 : IC := (.seq (.reg [⟨(some 1), 1, none, .box (.t 0)⟩,
  ⟨(some 2), 0, none, .mv (.c (.bool false))⟩]) (.seq (.reg [⟨(some 3), 0, none, .fa (.t 1) 7⟩,
  ⟨(some 4), 0, none, .ld (.t 3) none⟩,
  ⟨(some 5), 0, none, .fa (.t 1) 7⟩,
  ⟨(some 6), 0, none, .ld (.t 5) none⟩,
  ⟨(some 7), 0, none, .bin .eql (.t 4) (.t 6)⟩,
  ⟨(some 8), 0, none, .mv (.t 7)⟩,
  ⟨(some 9), 0, (some (8, true)), .fa (.t 1) 7⟩,
  ⟨(some 10), 0, (some (8, true)), .ld (.t 9) none⟩,
  ⟨(some 11), 2, (some (8, true)), .call (.c (.fn 132)) [((.t 10), .plain), ((.c (.flt 0)), .plain)]⟩,
  ⟨(some 12), 0, (some (8, true)), .bin .geq (.t 11) (.c (.int .i64 0))⟩,
  ⟨(some 13), 0, none, .pick (.t 8) (.t 12) (.c (.bool false))⟩,
  ⟨(some 2), 0, none, .mv (.t 13)⟩]) .ret))
def rs123 : List (Nat × Option Nat × Mode) := [(2, none, .plain)]
theorem chk123 : chkC Try.prog Try.f123.ntmps b123 (Try.f123.body.getD .skip) = true := by decide +kernel
theorem top123 {args : List Arg} {out : Out} (ha : args.length.ble Try.f123.ntmps = true) (h8 : args.length.ble 8 = true) (mss : List (List (Option Nat))) (hb : backOK args out.back)
    (hw : rnC Try.prog b123 (topQ rs123 args mss out) (slotsOf (argsAV argBase args 0) 0) (argsOb argBase args 0)) : CW Try.prog 123 args out :=
  CW.of Try.func123 rs123 mss (by decide +kernel) (by decide +kernel) (by decide +kernel) ha h8 chk123 hb hw
def l129_0 : IC := (.seq (.seq (.reg [⟨(some 4), 0, none, .mv (.t 3)⟩,
  ⟨(some 5), 0, none, .mv (.t 0)⟩,
  ⟨(some 6), 0, none, .len false (.t 5)⟩,
  ⟨(some 7), 0, none, .bin .lss (.t 4) (.t 6)⟩]) (.cond (.t 7) .skip (.exit 0))) (.seq (.block 1 (.seq (.reg [⟨(some 10), 0, none, .mv (.t 0)⟩,
  ⟨(some 11), 0, none, .mv (.t 3)⟩,
  ⟨(some 12), 0, none, .ia (.t 10) (.t 11) 1⟩,
  ⟨(some 13), 0, none, .ld (.t 12) none⟩,
  ⟨(some 14), 1, none, .call (.c (.fn 115)) [((.t 13), .plain)]⟩,
  ⟨(some 15), 0, none, .not (.t 14)⟩]) (.cond (.t 15) (.seq (.reg [⟨(some 2), 0, none, .mv (.c (.bool false))⟩]) .ret) .skip))) (.reg [⟨(some 8), 0, none, .mv (.t 3)⟩,
  ⟨(some 9), 0, none, .bin .add (.t 8) (.c (.int .i64 1))⟩,
  ⟨(some 3), 0, none, .mv (.t 9)⟩])))
def n129_0 : Norm := ⟨[(0, .plain), (3, .plain)], []⟩
def b129 : IC := (.seq (.reg [⟨(some 2), 0, none, .mv (.c (.bool false))⟩]) (.seq (.seq (.reg [⟨(some 3), 0, none, .mv (.c (.int .i64 0))⟩]) (.block 0 (.loop n129_0 l129_0))) (.seq (.reg [⟨(some 2), 0, none, .mv (.c (.bool true))⟩]) .ret)))
def rs129 : List (Nat × Option Nat × Mode) := [(2, none, .plain)]
theorem chk129 : chkC Try.prog Try.f129.ntmps b129 (Try.f129.body.getD .skip) = true := by decide +kernel
theorem top129 {args : List Arg} {out : Out} (ha : args.length.ble Try.f129.ntmps = true) (h8 : args.length.ble 8 = true) (mss : List (List (Option Nat))) (hb : backOK args out.back)
    (hw : rnC Try.prog b129 (topQ rs129 args mss out) (slotsOf (argsAV argBase args 0) 0) (argsOb argBase args 0)) : CW Try.prog 129 args out :=
  CW.of Try.func129 rs129 mss (by decide +kernel) (by decide +kernel) (by decide +kernel) ha h8 chk129 hb hw
def l20_0 : IC := (.seq (.seq (.reg [⟨(some 11), 0, none, .mv (.t 5)⟩,
  ⟨(some 12), 0, none, .mv (.t 0)⟩,
  ⟨(some 13), 0, none, .len false (.t 12)⟩,
  ⟨(some 14), 0, none, .bin .lss (.t 11) (.t 13)⟩]) (.cond (.t 14) .skip (.exit 0))) (.seq (.block 1 (.seq (.draw (.take 0 ⟨(some 17), 0, none, .mv (.t 0)⟩ (.take 1 ⟨(some 18), 0, none, .mv (.t 5)⟩ (.take 2 ⟨(some 19), 0, none, .ia (.t 17) (.t 18) 1⟩ (.take 3 ⟨(some 20), 0, none, .ld (.t 19) none⟩ (.take 4 ⟨(some 21), 0, none, .mv (.t 1)⟩ (.take 5 ⟨(some 22), 0, none, .mv (.t 5)⟩ (.take 6 ⟨(some 23), 0, none, .ia (.t 21) (.t 22) 1⟩ (.take 7 ⟨(some 24), 0, none, .ld (.t 23) none⟩ (.take 8 ⟨(some 25), 0, none, .bin .neq (.t 20) (.t 24)⟩ .done)))))))))) (.cond (.t 25) (.seq (.reg [⟨(some 4), 0, none, .mv (.c (.bool false))⟩]) .ret) .skip))) (.reg [⟨(some 15), 0, none, .mv (.t 5)⟩,
  ⟨(some 16), 0, none, .bin .add (.t 15) (.c (.int .i64 1))⟩,
  ⟨(some 5), 0, none, .mv (.t 16)⟩])))
def n20_0 : Norm := ⟨[(0, .plain), (1, .plain), (5, .plain)], []⟩
def b20 : IC := (.seq (.reg [⟨(some 4), 0, none, .mv (.c (.bool false))⟩]) (.seq (.seq (.reg [⟨(some 6), 0, none, .mv (.t 0)⟩,
  ⟨(some 7), 0, none, .len false (.t 6)⟩,
  ⟨(some 8), 0, none, .mv (.t 1)⟩,
  ⟨(some 9), 0, none, .len false (.t 8)⟩,
  ⟨(some 10), 0, none, .bin .neq (.t 7) (.t 9)⟩]) (.cond (.t 10) (.seq (.reg [⟨(some 4), 0, none, .mv (.c (.bool false))⟩]) .ret) .skip)) (.seq (.seq (.reg [⟨(some 5), 0, none, .mv (.c (.int .i64 0))⟩]) (.block 0 (.loop n20_0 l20_0))) (.seq (.reg [⟨(some 4), 0, none, .mv (.c (.bool true))⟩]) .ret))))
def rs20 : List (Nat × Option Nat × Mode) := [(4, none, .plain)]
theorem chk20 : chkC Try.prog Try.f20.ntmps b20 (Try.f20.body.getD .skip) = true := by decide +kernel
theorem top20 {args : List Arg} {out : Out} (ha : args.length.ble Try.f20.ntmps = true) (h8 : args.length.ble 8 = true) (mss : List (List (Option Nat))) (hb : backOK args out.back)
    (hw : rnC Try.prog b20 (topQ rs20 args mss out) (slotsOf (argsAV argBase args 0) 0) (argsOb argBase args 0)) : CW Try.prog 20 args out :=
  CW.of Try.func20 rs20 mss (by decide +kernel) (by decide +kernel) (by decide +kernel) ha h8 chk20 hb hw
def b116 : IC := (.seq (.reg [⟨(some 6), 0, none, .mv (.c (.bool false))⟩]) (.seq (.reg [⟨(some 7), 0, none, .mv (.t 0)⟩,
  ⟨(some 8), 0, none, .len false (.t 7)⟩,
  ⟨(some 9), 0, none, .mv (.t 1)⟩,
  ⟨(some 10), 0, none, .bin .geq (.t 8) (.t 9)⟩,
  ⟨(some 11), 0, none, .mv (.t 10)⟩,
  ⟨(some 12), 0, (some (11, true)), .mv (.t 0)⟩,
  ⟨(some 13), 0, (some (11, true)), .len false (.t 12)⟩,
  ⟨(some 14), 0, (some (11, true)), .mv (.t 2)⟩,
  ⟨(some 15), 0, (some (11, true)), .bin .leq (.t 13) (.t 14)⟩,
  ⟨(some 16), 0, none, .pick (.t 11) (.t 15) (.c (.bool false))⟩,
  ⟨(some 17), 0, none, .mv (.t 16)⟩,
  ⟨(some 18), 0, (some (17, true)), .mv (.t 0)⟩,
  ⟨(some 19), 1, (some (17, true)), .call (.c (.fn 129)) [((.t 18), .view 1)]⟩,
  ⟨(some 20), 0, none, .pick (.t 17) (.t 19) (.c (.bool false))⟩,
  ⟨(some 6), 0, none, .mv (.t 20)⟩]) .ret))
def rs116 : List (Nat × Option Nat × Mode) := [(6, none, .plain)]
theorem chk116 : chkC Try.prog Try.f116.ntmps b116 (Try.f116.body.getD .skip) = true := by decide +kernel
theorem top116 {args : List Arg} {out : Out} (ha : args.length.ble Try.f116.ntmps = true) (h8 : args.length.ble 8 = true) (mss : List (List (Option Nat))) (hb : backOK args out.back)
    (hw : rnC Try.prog b116 (topQ rs116 args mss out) (slotsOf (argsAV argBase args 0) 0) (argsOb argBase args 0)) : CW Try.prog 116 args out :=
  CW.of Try.func116 rs116 mss (by decide +kernel) (by decide +kernel) (by decide +kernel) ha h8 chk116 hb hw
def b68 : IC := (.seq (.reg [⟨(some 2), 1, none, .box (.t 0)⟩,
  ⟨(some 4), 0, none, .mv (.c (.bool false))⟩]) (.seq (.reg [⟨(some 6), 0, none, .ld (.t 2) (some 8)⟩,
  ⟨(some 7), 2, none, .call (.c (.fn 107)) [((.t 6), .plain)]⟩,
  ⟨(some 5), 0, none, .mv (.t 7)⟩]) (.seq (.reg [⟨(some 8), 0, none, .fa (.t 2) 0⟩,
  ⟨(some 9), 0, none, .ld (.t 8) none⟩,
  ⟨(some 10), 0, none, .bin .neq (.t 9) (.c (.int .i64 15))⟩,
  ⟨(some 11), 0, none, .mv (.t 10)⟩,
  ⟨(some 12), 0, (some (11, true)), .mv (.t 5)⟩,
  ⟨(some 13), 0, (some (11, true)), .bin .gtr (.t 12) (.c (.int .i64 0))⟩,
  ⟨(some 14), 0, none, .pick (.t 11) (.t 13) (.c (.bool false))⟩,
  ⟨(some 15), 0, none, .mv (.t 14)⟩,
  ⟨(some 16), 0, (some (15, true)), .mv (.t 1)⟩,
  ⟨(some 17), 0, (some (15, true)), .bin .geq (.t 16) (.c (.int .i64 0))⟩,
  ⟨(some 18), 0, none, .pick (.t 15) (.t 17) (.c (.bool false))⟩,
  ⟨(some 19), 0, none, .mv (.t 18)⟩,
  ⟨(some 20), 0, (some (19, true)), .mv (.t 1)⟩,
  ⟨(some 21), 0, (some (19, true)), .bin .leq (.t 20) (.c (.int .i64 1114111))⟩,
  ⟨(some 22), 0, none, .pick (.t 19) (.t 21) (.c (.bool false))⟩,
  ⟨(some 23), 0, none, .mv (.t 22)⟩,
  ⟨(some 24), 0, (some (23, true)), .mv (.t 1)⟩,
  ⟨(some 25), 0, (some (23, true)), .fa (.t 2) 1⟩,
  ⟨(some 26), 0, (some (23, true)), .ld (.t 25) none⟩,
  ⟨(some 27), 0, (some (23, true)), .bin .geq (.t 24) (.t 26)⟩,
  ⟨(some 28), 0, none, .pick (.t 23) (.t 27) (.c (.bool false))⟩,
  ⟨(some 29), 0, none, .mv (.t 28)⟩,
  ⟨(some 30), 0, (some (29, true)), .mv (.t 1)⟩,
  ⟨(some 31), 0, (some (29, true)), .fa (.t 2) 2⟩,
  ⟨(some 32), 0, (some (29, true)), .ld (.t 31) none⟩,
  ⟨(some 33), 0, (some (29, true)), .bin .leq (.t 30) (.t 32)⟩,
  ⟨(some 34), 0, none, .pick (.t 29) (.t 33) (.c (.bool false))⟩,
  ⟨(some 35), 0, none, .mv (.t 34)⟩,
  ⟨(some 36), 0, (some (35, true)), .mv (.t 1)⟩,
  ⟨(some 37), 0, (some (35, true)), .conv .u64 (.t 36)⟩,
  ⟨(some 38), 0, (some (35, true)), .fa (.t 2) 1⟩,
  ⟨(some 39), 0, (some (35, true)), .ld (.t 38) none⟩,
  ⟨(some 40), 0, (some (35, true)), .conv .u64 (.t 39)⟩,
  ⟨(some 41), 0, (some (35, true)), .bin .sub (.t 37) (.t 40)⟩,
  ⟨(some 42), 0, (some (35, true)), .mv (.t 5)⟩,
  ⟨(some 43), 0, (some (35, true)), .conv .u64 (.t 42)⟩,
  ⟨(some 44), 0, (some (35, true)), .bin .rem (.t 41) (.t 43)⟩,
  ⟨(some 45), 0, (some (35, true)), .bin .eql (.t 44) (.c (.int .u64 0))⟩,
  ⟨(some 46), 0, none, .pick (.t 35) (.t 45) (.c (.bool false))⟩,
  ⟨(some 4), 0, none, .mv (.t 46)⟩]) .ret)))
def rs68 : List (Nat × Option Nat × Mode) := [(4, none, .plain)]
theorem chk68 : chkC Try.prog Try.f68.ntmps b68 (Try.f68.body.getD .skip) = true := by decide +kernel
theorem top68 {args : List Arg} {out : Out} (ha : args.length.ble Try.f68.ntmps = true) (h8 : args.length.ble 8 = true) (mss : List (List (Option Nat))) (hb : backOK args out.back)
    (hw : rnC Try.prog b68 (topQ rs68 args mss out) (slotsOf (argsAV argBase args 0) 0) (argsOb argBase args 0)) : CW Try.prog 68 args out :=
  CW.of Try.func68 rs68 mss (by decide +kernel) (by decide +kernel) (by decide +kernel) ha h8 chk68 hb hw
def stepR (r : Rec) : Int := if r.kind = 4 then if r.n < 0 then 0 else r.n else 1
theorem w107 (r : Rec) (Q : Ex → Slots → LH → Prop) (hQ : ∀ σ H, Slots.get σ 2 = .c (.int .i64 (stepR r)) → Q .ret σ H) : rnC Try.prog b107 Q [(0, .c (Rec.cv r))] [] := by
  unfold b107
  simp only [go_sem, ↓reduceIte, Nat.reduceEqDiff, Nat.reduceMul, Nat.reduceAdd, Nat.reduceDiv, Nat.reduceSub, Nat.reduceLT, Nat.reduceLeDiff, Int.reduceLE, Int.reduceLT, Int.reduceToNat, Int.reduceEq]
  repeat' (first | apply And.intro | intro _)
  all_goals (try omega)
  all_goals (try (apply hQ; all_goals try (simp only [go_sem, ↓reduceIte, Nat.reduceEqDiff, Nat.reduceMul, Nat.reduceAdd, Nat.reduceDiv, Nat.reduceSub, Nat.reduceLT, Nat.reduceLeDiff, Int.reduceLE, Int.reduceLT, Int.reduceToNat, Int.reduceEq, stepR])))
  all_goals simp [*]
theorem cw107 (r : Rec) : CW Try.prog 107 [.cv (Rec.cv r)] ⟨[.cv (.int .i64 (stepR r))], []⟩ :=
  top107 rfl rfl [] trivial (w107 r _ fun σ H h => ret1 rfl h)
def rankF (x : Nat) : Int :=
  if ¬(FloatKind.f64.format.order x x = some Ordering.eq) then 9223372036854775807 else
  if IntKind.i64.wrap x < 0 then IntKind.i64.wrap (IntKind.i64.wrap (-9223372036854775808 - IntKind.i64.wrap x) - 1) else IntKind.i64.wrap x
theorem w137 (x : Nat) (Q : Ex → Slots → LH → Prop) (hQ : ∀ σ H, Slots.get σ 2 = .c (.int .i64 (rankF x)) → Q .ret σ H) : rnC Try.prog b137 Q [(0, .c (.flt x))] [] := by
  unfold b137
  simp only [go_sem, ↓reduceIte, Nat.reduceEqDiff, Nat.reduceMul, Nat.reduceAdd, Nat.reduceDiv, Nat.reduceSub, Nat.reduceLT, Nat.reduceLeDiff, Int.reduceLE, Int.reduceLT, Int.reduceToNat, Int.reduceEq]
  refine ⟨fun h => hQ _ _ ?_, fun h => ?_⟩
  · simp only [go_sem, ↓reduceIte, Nat.reduceEqDiff, Nat.reduceMul, Nat.reduceAdd, Nat.reduceDiv, Nat.reduceSub, Nat.reduceLT, Nat.reduceLeDiff, Int.reduceLE, Int.reduceLT, Int.reduceToNat, Int.reduceEq, rankF, h]
  refine callK_1 _ (fun _ => cw69 _) (by simp only [go_sem, ↓reduceIte, Nat.reduceEqDiff, Nat.reduceMul, Nat.reduceAdd, Nat.reduceDiv, Nat.reduceSub, Nat.reduceLT, Nat.reduceLeDiff, Int.reduceLE, Int.reduceLT, Int.reduceToNat, Int.reduceEq]) rfl rfl ?_
  simp only [go_sem, ↓reduceIte, Nat.reduceEqDiff, Nat.reduceMul, Nat.reduceAdd, Nat.reduceDiv, Nat.reduceSub, Nat.reduceLT, Nat.reduceLeDiff, Int.reduceLE, Int.reduceLT, Int.reduceToNat, Int.reduceEq]
  repeat (refine ⟨by (first | omega | (intro h1 h2; exact ⟨h1, h2⟩) | (intro h1; omega) | (intro h1; exact h1) | trivial), ?_⟩)
  repeat' (first | apply And.intro | intro _)
  all_goals (try omega)
  all_goals (try (apply hQ; all_goals try (simp only [go_sem, ↓reduceIte, Nat.reduceEqDiff, Nat.reduceMul, Nat.reduceAdd, Nat.reduceDiv, Nat.reduceSub, Nat.reduceLT, Nat.reduceLeDiff, Int.reduceLE, Int.reduceLT, Int.reduceToNat, Int.reduceEq, rankF])))
  all_goals simp [*]
  all_goals omega
theorem cw137 (x : Nat) : CW Try.prog 137 [.cv (.flt x)] ⟨[.cv (.int .i64 (rankF x))], []⟩ :=
  top137 rfl rfl [] trivial (w137 x _ fun σ H h => ret1 rfl h)
def orderF (x y : Nat) : Int := if rankF x < rankF y then -1 else if rankF y < rankF x then 1 else 0
theorem w132 (x y : Nat) (Q : Ex → Slots → LH → Prop) (hQ : ∀ σ H, Slots.get σ 4 = .c (.int .i64 (orderF x y)) → Q .ret σ H) : rnC Try.prog b132 Q [(0, .c (.flt x)), (1, .c (.flt y))] [] := by
  unfold b132
  simp only [go_sem, ↓reduceIte, Nat.reduceEqDiff, Nat.reduceMul, Nat.reduceAdd, Nat.reduceDiv, Nat.reduceSub, Nat.reduceLT, Nat.reduceLeDiff, Int.reduceLE, Int.reduceLT, Int.reduceToNat, Int.reduceEq]
  refine callK_1 _ (fun _ => cw137 _) (by simp only [go_sem, ↓reduceIte, Nat.reduceEqDiff, Nat.reduceMul, Nat.reduceAdd, Nat.reduceDiv, Nat.reduceSub, Nat.reduceLT, Nat.reduceLeDiff, Int.reduceLE, Int.reduceLT, Int.reduceToNat, Int.reduceEq]) rfl rfl ?_
  simp only [go_sem, ↓reduceIte, Nat.reduceEqDiff, Nat.reduceMul, Nat.reduceAdd, Nat.reduceDiv, Nat.reduceSub, Nat.reduceLT, Nat.reduceLeDiff, Int.reduceLE, Int.reduceLT, Int.reduceToNat, Int.reduceEq]
  repeat (refine ⟨by (first | omega | (intro h1 h2; exact ⟨h1, h2⟩) | (intro h1; omega) | (intro h1; exact h1) | trivial), ?_⟩)
  refine callK_1 _ (fun _ => cw137 _) (by simp only [go_sem, ↓reduceIte, Nat.reduceEqDiff, Nat.reduceMul, Nat.reduceAdd, Nat.reduceDiv, Nat.reduceSub, Nat.reduceLT, Nat.reduceLeDiff, Int.reduceLE, Int.reduceLT, Int.reduceToNat, Int.reduceEq]) rfl rfl ?_
  simp only [go_sem, ↓reduceIte, Nat.reduceEqDiff, Nat.reduceMul, Nat.reduceAdd, Nat.reduceDiv, Nat.reduceSub, Nat.reduceLT, Nat.reduceLeDiff, Int.reduceLE, Int.reduceLT, Int.reduceToNat, Int.reduceEq]
  repeat (refine ⟨by (first | omega | (intro h1 h2; exact ⟨h1, h2⟩) | (intro h1; omega) | (intro h1; exact h1) | trivial), ?_⟩)
  repeat' (first | apply And.intro | intro _)
  all_goals (try omega)
  all_goals (try (apply hQ; all_goals try (simp only [go_sem, ↓reduceIte, Nat.reduceEqDiff, Nat.reduceMul, Nat.reduceAdd, Nat.reduceDiv, Nat.reduceSub, Nat.reduceLT, Nat.reduceLeDiff, Int.reduceLE, Int.reduceLT, Int.reduceToNat, Int.reduceEq, orderF])))
  all_goals congr 2
  all_goals (repeat' split) <;> omega
theorem cw132 (x y : Nat) : CW Try.prog 132 [.cv (.flt x), .cv (.flt y)] ⟨[.cv (.int .i64 (orderF x y))], []⟩ :=
  top132 rfl rfl [] trivial (w132 x y _ fun σ H h => ret1 rfl h)
theorem w115 (c : Int) (Q : Ex → Slots → LH → Prop) (hQ : ∀ σ H, Slots.get σ 2 = .c (.bool (valid c)) → Q .ret σ H) : rnC Try.prog b115 Q [(0, .c (.int .i32 c))] [] := by
  unfold b115
  simp only [go_sem, ↓reduceIte, Nat.reduceEqDiff, Nat.reduceMul, Nat.reduceAdd, Nat.reduceDiv, Nat.reduceSub, Nat.reduceLT, Nat.reduceLeDiff, Int.reduceLE, Int.reduceLT, Int.reduceToNat, Int.reduceEq]
  refine ⟨fun h1 h2 => ⟨h1, h2⟩, hQ _ _ ?_⟩
  simp only [go_sem, ↓reduceIte, Nat.reduceEqDiff, Nat.reduceMul, Nat.reduceAdd, Nat.reduceDiv, Nat.reduceSub, Nat.reduceLT, Nat.reduceLeDiff, Int.reduceLE, Int.reduceLT, Int.reduceToNat, Int.reduceEq, valid]
  congr 2
  rw [Bool.eq_iff_iff]
  simp
  omega
theorem cw115 (c : Int) : CW Try.prog 115 [.cv (.int .i32 c)] ⟨[.cv (.bool (valid c))], []⟩ :=
  top115 rfl rfl [] trivial (w115 c _ fun σ H h => ret1 rfl h)
theorem w67 (k : Int) (Q : Ex → Slots → LH → Prop) (hQ : ∀ σ H, Slots.get σ 2 = .c (.int .i64 (famK k)) → Q .ret σ H) : rnC Try.prog b67 Q [(0, .c (.int .i64 k))] [] := by
  unfold b67
  simp only [go_sem, ↓reduceIte, Nat.reduceEqDiff, Nat.reduceMul, Nat.reduceAdd, Nat.reduceDiv, Nat.reduceSub, Nat.reduceLT, Nat.reduceLeDiff, Int.reduceLE, Int.reduceLT, Int.reduceToNat, Int.reduceEq]
  refine ⟨fun h => hQ _ _ ?_, fun h => ⟨by omega, hQ _ _ ?_⟩⟩
  · simp only [go_sem, ↓reduceIte, Nat.reduceEqDiff, Nat.reduceMul, Nat.reduceAdd, Nat.reduceDiv, Nat.reduceSub, Nat.reduceLT, Nat.reduceLeDiff, Int.reduceLE, Int.reduceLT, Int.reduceToNat, Int.reduceEq, famK]
    congr 2
    (repeat' split) <;> omega
  · have : k = 1 ∨ k = 2 ∨ k = 3 ∨ k = 4 ∨ k = 5 ∨ k = 6 ∨ k = 7 ∨ k = 8 ∨ k = 9 ∨ k = 10 ∨ k = 11 ∨ k = 12 ∨ k = 13 ∨ k = 14 ∨ k = 15 := by omega
    rcases this with h | h | h | h | h | h | h | h | h | h | h | h | h | h | h <;> subst h <;> rfl
theorem cw67 (k : Int) : CW Try.prog 67 [.cv (.int .i64 k)] ⟨[.cv (.int .i64 (famK k))], []⟩ :=
  top67 rfl rfl [] trivial (w67 k _ fun σ H h => ret1 rfl h)
def bareR (r : Rec) (n t m o w : Bool) : Bool :=
  (((((n || decide (r.n = 0)) && (t || decide (r.to = []))) && (m || decide (r.name.data.toList = []))) && (o || decide (r.other.data.toList = []))) && (w || decide (r.weight = 0)))
theorem zlen {l : List Int} : ((l.length : Int) = 0) = (l = []) := by cases l <;> simp; omega
attribute [go_sem] zlen
theorem w112 (r : Rec) (n t m o w : Bool) (Q : Ex → Slots → LH → Prop) (hQ : ∀ σ H, Slots.get σ 12 = .c (.bool (bareR r n t m o w)) → Q .ret σ H) : rnC Try.prog b112 Q [(0, .c (Rec.cv r)), (1, .c (.bool n)), (2, .c (.bool t)), (3, .c (.bool m)), (4, .c (.bool o)), (5, .c (.bool w))] [] := by
  unfold b112
  simp only [go_sem, ↓reduceIte, Nat.reduceEqDiff, Nat.reduceMul, Nat.reduceAdd, Nat.reduceDiv, Nat.reduceSub, Nat.reduceLT, Nat.reduceLeDiff, Int.reduceLE, Int.reduceLT, Int.reduceToNat, Int.reduceEq]
  repeat (refine ⟨by (first | omega | (intro h1 h2; exact ⟨h1, h2⟩) | (intro h1; omega) | (intro h1; exact h1) | trivial), ?_⟩)
  refine callK_1 _ (fun _ => cw69 _) (by simp only [go_sem, ↓reduceIte, Nat.reduceEqDiff, Nat.reduceMul, Nat.reduceAdd, Nat.reduceDiv, Nat.reduceSub, Nat.reduceLT, Nat.reduceLeDiff, Int.reduceLE, Int.reduceLT, Int.reduceToNat, Int.reduceEq]) rfl rfl ?_
  simp only [go_sem, ↓reduceIte, Nat.reduceEqDiff, Nat.reduceMul, Nat.reduceAdd, Nat.reduceDiv, Nat.reduceSub, Nat.reduceLT, Nat.reduceLeDiff, Int.reduceLE, Int.reduceLT, Int.reduceToNat, Int.reduceEq]
  repeat (refine ⟨by (first | omega | (intro h1 h2; exact ⟨h1, h2⟩) | (intro h1; omega) | (intro h1; exact h1) | trivial), ?_⟩)
  apply hQ
  all_goals simp only [go_sem, ↓reduceIte, Nat.reduceEqDiff, Nat.reduceMul, Nat.reduceAdd, Nat.reduceDiv, Nat.reduceSub, Nat.reduceLT, Nat.reduceLeDiff, Int.reduceLE, Int.reduceLT, Int.reduceToNat, Int.reduceEq, bareR]
  congr 2
  rw [Bool.eq_iff_iff]
  simp
theorem cw112 (r : Rec) (n t m o w : Bool) : CW Try.prog 112 [.cv (Rec.cv r), .cv (.bool n), .cv (.bool t), .cv (.bool m), .cv (.bool o), .cv (.bool w)] ⟨[.cv (.bool (bareR r n t m o w))], []⟩ :=
  top112 rfl rfl [] trivial (w112 r n t m o w _ fun σ H h => ret1 rfl h)
def weightR (x : Nat) : Bool := decide (x ≤ 9218868437227405312)
theorem w114 (x : Nat) (Q : Ex → Slots → LH → Prop) (hQ : ∀ σ H, Slots.get σ 2 = .c (.bool (weightR x)) → Q .ret σ H) : rnC Try.prog b114 Q [(0, .c (.flt x))] [] := by
  unfold b114
  simp only [go_sem, ↓reduceIte, Nat.reduceEqDiff, Nat.reduceMul, Nat.reduceAdd, Nat.reduceDiv, Nat.reduceSub, Nat.reduceLT, Nat.reduceLeDiff, Int.reduceLE, Int.reduceLT, Int.reduceToNat, Int.reduceEq]
  refine callK_1 _ (fun _ => cw69 _) (by simp only [go_sem, ↓reduceIte, Nat.reduceEqDiff, Nat.reduceMul, Nat.reduceAdd, Nat.reduceDiv, Nat.reduceSub, Nat.reduceLT, Nat.reduceLeDiff, Int.reduceLE, Int.reduceLT, Int.reduceToNat, Int.reduceEq]) rfl rfl ?_
  simp only [go_sem, ↓reduceIte, Nat.reduceEqDiff, Nat.reduceMul, Nat.reduceAdd, Nat.reduceDiv, Nat.reduceSub, Nat.reduceLT, Nat.reduceLeDiff, Int.reduceLE, Int.reduceLT, Int.reduceToNat, Int.reduceEq]
  repeat (refine ⟨by (first | omega | (intro h1 h2; exact ⟨h1, h2⟩) | (intro h1; omega) | (intro h1; exact h1) | trivial), ?_⟩)
  repeat' (first | apply And.intro | intro _)
  all_goals (try omega)
  all_goals (try (apply hQ; all_goals try (simp only [go_sem, ↓reduceIte, Nat.reduceEqDiff, Nat.reduceMul, Nat.reduceAdd, Nat.reduceDiv, Nat.reduceSub, Nat.reduceLT, Nat.reduceLeDiff, Int.reduceLE, Int.reduceLT, Int.reduceToNat, Int.reduceEq, weightR])))
  congr 2
  rw [Bool.eq_iff_iff]
  simp
  omega
theorem cw114 (x : Nat) : CW Try.prog 114 [.cv (.flt x)] ⟨[.cv (.bool (weightR x))], []⟩ :=
  top114 rfl rfl [] trivial (w114 x _ fun σ H h => ret1 rfl h)
def lowS (s : ByteArray) (k : Nat) : Bool := decide (97 ≤ at8 s k) && decide (at8 s k ≤ 122)
def nameS (s : ByteArray) : Bool :=
  decide (s.size = 4) && decide (65 ≤ at8 s 0) && decide (at8 s 0 ≤ 90) && (List.range' 1 3).all (lowS s)
theorem w113 (s : ByteArray) (Q : Ex → Slots → LH → Prop) (hQ : ∀ σ H, Slots.get σ 2 = .c (.bool (nameS s)) → Q .ret σ H) : rnC Try.prog b113 Q [(0, .c (.str s))] [] := by
  unfold b113
  simp only [go_sem, ↓reduceIte, Nat.reduceEqDiff, Nat.reduceMul, Nat.reduceAdd, Nat.reduceDiv, Nat.reduceSub, Nat.reduceLT, Nat.reduceLeDiff, Int.reduceLE, Int.reduceLT, Int.reduceToNat, Int.reduceEq]
  repeat (refine ⟨by (first | omega | (intro h1 h2; exact ⟨h1, h2⟩) | (intro h1; omega) | (intro h1; exact h1) | trivial), ?_⟩)
  refine ⟨fun h => ?_, fun h => ?_⟩
  · apply hQ
    all_goals simp only [go_sem, ↓reduceIte, Nat.reduceEqDiff, Nat.reduceMul, Nat.reduceAdd, Nat.reduceDiv, Nat.reduceSub, Nat.reduceLT, Nat.reduceLeDiff, Int.reduceLE, Int.reduceLT, Int.reduceToNat, Int.reduceEq, nameS]
    have : (decide (s.size = 4) && decide (65 ≤ at8 s 0) && decide (at8 s 0 ≤ 90)) = false := by
      simp; omega
    rw [this]; rfl
  have hn : nameS s = (List.range' 1 3).all (lowS s) := by
    have : (decide (s.size = 4) && decide (65 ≤ at8 s 0) && decide (at8 s 0 ≤ 90)) = true := by
      simp; omega
    unfold nameS
    rw [this]; rfl
  rw [hn] at hQ
  refine loopR.by (α := Nat) (fun k => [(0, .c (.str s)), (3, .c (.int .i64 k))]) (fun _ => []) (fun k => 4 - k)
    (fun k => 1 ≤ k ∧ k ≤ 4 ∧ (List.range' k (4 - k)).all (lowS s) = (List.range' 1 3).all (lowS s)) 1 ⟨by omega, by omega, rfl⟩ ?_ ?_
  · intro Y hY
    simp only [go_sem, ↓reduceIte, Nat.reduceEqDiff, Nat.reduceMul, Nat.reduceAdd, Nat.reduceDiv, Nat.reduceSub, Nat.reduceLT, Nat.reduceLeDiff, Int.reduceLE, Int.reduceLT, Int.reduceToNat, Int.reduceEq, n113_0]
    exact hY
  · intro k hk Y hY
    unfold l113_0
    rcases Nat.lt_or_ge k 4 with hlt | hge
    · have hf := hk.2.2
      have e : 4 - k = (4 - (k + 1)) + 1 := by omega
      rw [e, List.range'_succ, List.all_cons] at hf
      simp only [go_sem, ↓reduceIte, Nat.reduceEqDiff, Nat.reduceMul, Nat.reduceAdd, Nat.reduceDiv, Nat.reduceSub, Nat.reduceLT, Nat.reduceLeDiff, Int.reduceLE, Int.reduceLT, Int.reduceToNat, Int.reduceEq, n113_0]
      refine ⟨fun _ => ⟨by omega, fun _ => by omega, fun h1 => hQ _ _ ?_, fun h1 => ?_⟩, fun h => by omega⟩
      · simp only [go_sem, ↓reduceIte, Nat.reduceEqDiff, Nat.reduceMul, Nat.reduceAdd, Nat.reduceDiv, Nat.reduceSub, Nat.reduceLT, Nat.reduceLeDiff, Int.reduceLE, Int.reduceLT, Int.reduceToNat, Int.reduceEq]
        rw [← hf]
        have : lowS s k = false := by unfold lowS; simp; omega
        rw [this]; rfl
      · rw [succ64 hlt (by omega)]
        refine hY (k + 1) ⟨by omega, by omega, ?_⟩ (by omega)
        rw [← hf]
        have : lowS s k = true := by unfold lowS; simp; omega
        rw [this]; rfl
    · simp only [go_sem, ↓reduceIte, Nat.reduceEqDiff, Nat.reduceMul, Nat.reduceAdd, Nat.reduceDiv, Nat.reduceSub, Nat.reduceLT, Nat.reduceLeDiff, Int.reduceLE, Int.reduceLT, Int.reduceToNat, Int.reduceEq, n113_0]
      refine ⟨fun h => by omega, fun _ => hQ _ _ ?_⟩
      have : k = 4 := by omega
      subst this
      simp only [go_sem, ↓reduceIte, Nat.reduceEqDiff, Nat.reduceMul, Nat.reduceAdd, Nat.reduceDiv, Nat.reduceSub, Nat.reduceLT, Nat.reduceLeDiff, Int.reduceLE, Int.reduceLT, Int.reduceToNat, Int.reduceEq]
      rw [← hk.2.2]; rfl
theorem cw113 (s : ByteArray) : CW Try.prog 113 [.cv (.str s)] ⟨[.cv (.bool (nameS s))], []⟩ :=
  top113 rfl rfl [] trivial (w113 s _ fun σ H h => ret1 rfl h)
theorem w122 (s : ByteArray) (Q : Ex → Slots → LH → Prop) (hQ : ∀ σ H, Slots.get σ 2 = .c (.bool (nameS s)) → Q .ret σ H) : rnC Try.prog b122 Q [(0, .c (.str s))] [] := by
  unfold b122
  simp only [go_sem, ↓reduceIte, Nat.reduceEqDiff, Nat.reduceMul, Nat.reduceAdd, Nat.reduceDiv, Nat.reduceSub, Nat.reduceLT, Nat.reduceLeDiff, Int.reduceLE, Int.reduceLT, Int.reduceToNat, Int.reduceEq]
  repeat (refine ⟨by (first | omega | (intro h1 h2; exact ⟨h1, h2⟩) | (intro h1; omega) | (intro h1; exact h1) | trivial), ?_⟩)
  refine ⟨fun h => ?_, fun h => ?_⟩
  · apply hQ
    all_goals simp only [go_sem, ↓reduceIte, Nat.reduceEqDiff, Nat.reduceMul, Nat.reduceAdd, Nat.reduceDiv, Nat.reduceSub, Nat.reduceLT, Nat.reduceLeDiff, Int.reduceLE, Int.reduceLT, Int.reduceToNat, Int.reduceEq, nameS]
    have : (decide (s.size = 4) && decide (65 ≤ at8 s 0) && decide (at8 s 0 ≤ 90)) = false := by
      simp; omega
    rw [this]; rfl
  have hn : nameS s = (List.range' 1 3).all (lowS s) := by
    have : (decide (s.size = 4) && decide (65 ≤ at8 s 0) && decide (at8 s 0 ≤ 90)) = true := by
      simp; omega
    unfold nameS
    rw [this]; rfl
  rw [hn] at hQ
  refine loopR.by (α := Nat) (fun k => [(0, .c (.str s)), (3, .c (.int .i64 k))]) (fun _ => []) (fun k => 4 - k)
    (fun k => 1 ≤ k ∧ k ≤ 4 ∧ (List.range' k (4 - k)).all (lowS s) = (List.range' 1 3).all (lowS s)) 1 ⟨by omega, by omega, rfl⟩ ?_ ?_
  · intro Y hY
    simp only [go_sem, ↓reduceIte, Nat.reduceEqDiff, Nat.reduceMul, Nat.reduceAdd, Nat.reduceDiv, Nat.reduceSub, Nat.reduceLT, Nat.reduceLeDiff, Int.reduceLE, Int.reduceLT, Int.reduceToNat, Int.reduceEq, n122_0]
    exact hY
  · intro k hk Y hY
    unfold l122_0
    rcases Nat.lt_or_ge k 4 with hlt | hge
    · have hf := hk.2.2
      have e : 4 - k = (4 - (k + 1)) + 1 := by omega
      rw [e, List.range'_succ, List.all_cons] at hf
      simp only [go_sem, ↓reduceIte, Nat.reduceEqDiff, Nat.reduceMul, Nat.reduceAdd, Nat.reduceDiv, Nat.reduceSub, Nat.reduceLT, Nat.reduceLeDiff, Int.reduceLE, Int.reduceLT, Int.reduceToNat, Int.reduceEq, n122_0]
      refine ⟨fun _ => ⟨by omega, fun _ => by omega, fun h1 => hQ _ _ ?_, fun h1 => ?_⟩, fun h => by omega⟩
      · simp only [go_sem, ↓reduceIte, Nat.reduceEqDiff, Nat.reduceMul, Nat.reduceAdd, Nat.reduceDiv, Nat.reduceSub, Nat.reduceLT, Nat.reduceLeDiff, Int.reduceLE, Int.reduceLT, Int.reduceToNat, Int.reduceEq]
        rw [← hf]
        have : lowS s k = false := by unfold lowS; simp; omega
        rw [this]; rfl
      · rw [succ64 hlt (by omega)]
        refine hY (k + 1) ⟨by omega, by omega, ?_⟩ (by omega)
        rw [← hf]
        have : lowS s k = true := by unfold lowS; simp; omega
        rw [this]; rfl
    · simp only [go_sem, ↓reduceIte, Nat.reduceEqDiff, Nat.reduceMul, Nat.reduceAdd, Nat.reduceDiv, Nat.reduceSub, Nat.reduceLT, Nat.reduceLeDiff, Int.reduceLE, Int.reduceLT, Int.reduceToNat, Int.reduceEq, n122_0]
      refine ⟨fun h => by omega, fun _ => hQ _ _ ?_⟩
      have : k = 4 := by omega
      subst this
      simp only [go_sem, ↓reduceIte, Nat.reduceEqDiff, Nat.reduceMul, Nat.reduceAdd, Nat.reduceDiv, Nat.reduceSub, Nat.reduceLT, Nat.reduceLeDiff, Int.reduceLE, Int.reduceLT, Int.reduceToNat, Int.reduceEq]
      rw [← hk.2.2]; rfl
theorem cw122 (s : ByteArray) : CW Try.prog 122 [.cv (.str s)] ⟨[.cv (.bool (nameS s))], []⟩ :=
  top122 rfl rfl [] trivial (w122 s _ fun σ H h => ret1 rfl h)
def weighsR (r : Rec) : Bool := decide (FloatKind.f64.format.order r.weight r.weight = some Ordering.eq) && decide (0 ≤ orderF r.weight 0)
theorem w123 (r : Rec) (Q : Ex → Slots → LH → Prop) (hQ : ∀ σ H, Slots.get σ 2 = .c (.bool (weighsR r)) → Q .ret σ H) : rnC Try.prog b123 Q [(0, .c (Rec.cv r))] [] := by
  unfold b123
  simp only [go_sem, ↓reduceIte, Nat.reduceEqDiff, Nat.reduceMul, Nat.reduceAdd, Nat.reduceDiv, Nat.reduceSub, Nat.reduceLT, Nat.reduceLeDiff, Int.reduceLE, Int.reduceLT, Int.reduceToNat, Int.reduceEq]
  repeat (refine ⟨by (first | omega | (intro h1 h2; exact ⟨h1, h2⟩) | (intro h1; omega) | (intro h1; exact h1) | trivial), ?_⟩)
  refine callK_1 _ (fun _ => cw132 _ _) (by simp only [go_sem, ↓reduceIte, Nat.reduceEqDiff, Nat.reduceMul, Nat.reduceAdd, Nat.reduceDiv, Nat.reduceSub, Nat.reduceLT, Nat.reduceLeDiff, Int.reduceLE, Int.reduceLT, Int.reduceToNat, Int.reduceEq]) rfl rfl ?_
  simp only [go_sem, ↓reduceIte, Nat.reduceEqDiff, Nat.reduceMul, Nat.reduceAdd, Nat.reduceDiv, Nat.reduceSub, Nat.reduceLT, Nat.reduceLeDiff, Int.reduceLE, Int.reduceLT, Int.reduceToNat, Int.reduceEq]
  repeat (refine ⟨by (first | omega | (intro h1 h2; exact ⟨h1, h2⟩) | (intro h1; omega) | (intro h1; exact h1) | trivial), ?_⟩)
  apply hQ
  all_goals simp only [go_sem, ↓reduceIte, Nat.reduceEqDiff, Nat.reduceMul, Nat.reduceAdd, Nat.reduceDiv, Nat.reduceSub, Nat.reduceLT, Nat.reduceLeDiff, Int.reduceLE, Int.reduceLT, Int.reduceToNat, Int.reduceEq, weighsR]
theorem cw123 (r : Rec) : CW Try.prog 123 [.cv (Rec.cv r)] ⟨[.cv (.bool (weighsR r))], []⟩ :=
  top123 rfl rfl [] trivial (w123 r _ fun σ H h => ret1 rfl h)
theorem w129 (l : List Int) (hn : l.length < 9223372036854775808) (Q : Ex → Slots → LH → Prop) (hQ : ∀ σ H, Slots.get σ 2 = .c (.bool (l.all valid)) → Q .ret σ H) : rnC Try.prog b129 Q [(0, .c (.sl 1 (runes l)))] [] := by
  unfold b129
  simp only [go_sem, ↓reduceIte, Nat.reduceEqDiff, Nat.reduceMul, Nat.reduceAdd, Nat.reduceDiv, Nat.reduceSub, Nat.reduceLT, Nat.reduceLeDiff, Int.reduceLE, Int.reduceLT, Int.reduceToNat, Int.reduceEq]
  refine loopR.by (α := Nat) (fun i => [(0, .c (.sl 1 (runes l))), (3, .c (.int .i64 i))]) (fun i => []) (fun i => l.length - i) (fun i => i ≤ l.length ∧ ((l.drop i).all valid = l.all valid)) 0 ⟨Nat.zero_le _, rfl⟩ ?_ ?_
  · intro Y hY
    simp only [go_sem, ↓reduceIte, Nat.reduceEqDiff, Nat.reduceMul, Nat.reduceAdd, Nat.reduceDiv, Nat.reduceSub, Nat.reduceLT, Nat.reduceLeDiff, Int.reduceLE, Int.reduceLT, Int.reduceToNat, Int.reduceEq, n129_0]
    exact hY
  intro i hk Y hY
  unfold l129_0
  rcases Nat.lt_or_ge i (l.length) with hlt | hge
  · obtain ⟨c, e, hm, hd⟩ := runes_at hlt
    have hf := hk.2
    rw [hd, List.all_cons] at hf
    simp only [go_sem, ↓reduceIte, Nat.reduceEqDiff, Nat.reduceMul, Nat.reduceAdd, Nat.reduceDiv, Nat.reduceSub, Nat.reduceLT, Nat.reduceLeDiff, Int.reduceLE, Int.reduceLT, Int.reduceToNat, Int.reduceEq, n129_0, e]
    refine ⟨fun _ => ⟨by omega, ?_⟩, fun h => by omega⟩
    refine callK_1 _ (fun _ => cw115 _) (by simp only [go_sem, ↓reduceIte, Nat.reduceEqDiff, Nat.reduceMul, Nat.reduceAdd, Nat.reduceDiv, Nat.reduceSub, Nat.reduceLT, Nat.reduceLeDiff, Int.reduceLE, Int.reduceLT, Int.reduceToNat, Int.reduceEq]) rfl rfl ?_
    simp only [go_sem, ↓reduceIte, Nat.reduceEqDiff, Nat.reduceMul, Nat.reduceAdd, Nat.reduceDiv, Nat.reduceSub, Nat.reduceLT, Nat.reduceLeDiff, Int.reduceLE, Int.reduceLT, Int.reduceToNat, Int.reduceEq]
    repeat (refine ⟨by (first | omega | (intro h1 h2; exact ⟨h1, h2⟩) | (intro h1; omega) | (intro h1; exact h1) | trivial), ?_⟩)
    rw [succ64 hlt hn]
    refine ⟨fun h1 => hQ _ _ ?_, fun h1 => hY (i + 1) ⟨hlt, ?_⟩ (by omega)⟩
    · simp only [go_sem, ↓reduceIte, Nat.reduceEqDiff, Nat.reduceMul, Nat.reduceAdd, Nat.reduceDiv, Nat.reduceSub, Nat.reduceLT, Nat.reduceLeDiff, Int.reduceLE, Int.reduceLT, Int.reduceToNat, Int.reduceEq, ← hf, h1, Bool.false_and]
    · rw [← hf, h1, Bool.true_and]
  · simp only [go_sem, ↓reduceIte, Nat.reduceEqDiff, Nat.reduceMul, Nat.reduceAdd, Nat.reduceDiv, Nat.reduceSub, Nat.reduceLT, Nat.reduceLeDiff, Int.reduceLE, Int.reduceLT, Int.reduceToNat, Int.reduceEq, n129_0]
    refine ⟨fun h => by omega, fun _ => hQ _ _ ?_⟩
    have : i = l.length := by omega
    subst this
    have hf := hk.2
    rw [List.drop_length, List.all_nil] at hf
    simp only [go_sem, ↓reduceIte, Nat.reduceEqDiff, Nat.reduceMul, Nat.reduceAdd, Nat.reduceDiv, Nat.reduceSub, Nat.reduceLT, Nat.reduceLeDiff, Int.reduceLE, Int.reduceLT, Int.reduceToNat, Int.reduceEq, ← hf]
theorem cw129 (l : List Int) (hn : l.length < 9223372036854775808) : CW Try.prog 129 [.cv (.sl 1 (runes l))] ⟨[.cv (.bool (l.all valid))], []⟩ :=
  top129 rfl rfl [] trivial (w129 l hn _ fun σ H h => ret1 rfl h)
theorem w20 (a b : List Int) (ha : a.length < 9223372036854775808) (hb : b.length < 9223372036854775808) (Q : Ex → Slots → LH → Prop) (hQ : ∀ σ H, Slots.get σ 4 = .c (.bool ((decide (a = b)))) → Q .ret σ H) : rnC Try.prog b20 Q [(0, .c (.sl 1 (runes a))), (1, .c (.sl 1 (runes b)))] [] := by
  unfold b20
  simp only [go_sem, ↓reduceIte, Nat.reduceEqDiff, Nat.reduceMul, Nat.reduceAdd, Nat.reduceDiv, Nat.reduceSub, Nat.reduceLT, Nat.reduceLeDiff, Int.reduceLE, Int.reduceLT, Int.reduceToNat, Int.reduceEq]
  refine ⟨fun h => ?_, fun h => ?_⟩
  · apply hQ
    all_goals simp only [go_sem, ↓reduceIte, Nat.reduceEqDiff, Nat.reduceMul, Nat.reduceAdd, Nat.reduceDiv, Nat.reduceSub, Nat.reduceLT, Nat.reduceLeDiff, Int.reduceLE, Int.reduceLT, Int.reduceToNat, Int.reduceEq]
    have : ¬ a = b := fun e => h (by rw [e])
    simp [this]
  refine loopR.by (α := Nat) (fun i => [(0, .c (.sl 1 (runes a))), (1, .c (.sl 1 (runes b))), (5, .c (.int .i64 i))]) (fun i => []) (fun i => a.length - i) (fun i => i ≤ a.length ∧ ((decide (a.drop i = b.drop i)) = decide (a = b))) 0 ⟨Nat.zero_le _, by simp⟩ ?_ ?_
  · intro Y hY
    simp only [go_sem, ↓reduceIte, Nat.reduceEqDiff, Nat.reduceMul, Nat.reduceAdd, Nat.reduceDiv, Nat.reduceSub, Nat.reduceLT, Nat.reduceLeDiff, Int.reduceLE, Int.reduceLT, Int.reduceToNat, Int.reduceEq, n20_0]
    exact hY
  intro i hk Y hY
  unfold l20_0
  rcases Nat.lt_or_ge i (a.length) with hlt | hge
  · have hlb : i < b.length := by omega
    obtain ⟨c, e, hm, hd⟩ := runes_at hlt
    obtain ⟨c', e', hm', hd'⟩ := runes_at hlb
    have hf := hk.2
    rw [hd, hd'] at hf
    simp only [go_sem, ↓reduceIte, Nat.reduceEqDiff, Nat.reduceMul, Nat.reduceAdd, Nat.reduceDiv, Nat.reduceSub, Nat.reduceLT, Nat.reduceLeDiff, Int.reduceLE, Int.reduceLT, Int.reduceToNat, Int.reduceEq, n20_0, e, e']
    refine ⟨fun _ => ⟨by omega, by omega, ?_⟩, fun h => by omega⟩
    rw [succ64 hlt ha]
    refine ⟨fun h1 => hQ _ _ ?_, fun h1 => hY (i + 1) ⟨hlt, ?_⟩ (by omega)⟩
    · simp only [go_sem, ↓reduceIte, Nat.reduceEqDiff, Nat.reduceMul, Nat.reduceAdd, Nat.reduceDiv, Nat.reduceSub, Nat.reduceLT, Nat.reduceLeDiff, Int.reduceLE, Int.reduceLT, Int.reduceToNat, Int.reduceEq, ← hf]
      simp [h1]
    · rw [← hf]
      simp [h1]
  · simp only [go_sem, ↓reduceIte, Nat.reduceEqDiff, Nat.reduceMul, Nat.reduceAdd, Nat.reduceDiv, Nat.reduceSub, Nat.reduceLT, Nat.reduceLeDiff, Int.reduceLE, Int.reduceLT, Int.reduceToNat, Int.reduceEq, n20_0]
    refine ⟨fun h => by omega, fun _ => hQ _ _ ?_⟩
    have h1 : i = a.length := by omega
    have h2 : i = b.length := by omega
    have hf := hk.2
    rw [List.drop_eq_nil_of_le (by omega), List.drop_eq_nil_of_le (by omega)] at hf
    simp only [go_sem, ↓reduceIte, Nat.reduceEqDiff, Nat.reduceMul, Nat.reduceAdd, Nat.reduceDiv, Nat.reduceSub, Nat.reduceLT, Nat.reduceLeDiff, Int.reduceLE, Int.reduceLT, Int.reduceToNat, Int.reduceEq]
    rw [← hf]; rfl
theorem cw20 (a b : List Int) (ha : a.length < 9223372036854775808) (hb : b.length < 9223372036854775808) : CW Try.prog 20 [.cv (.sl 1 (runes a)), .cv (.sl 1 (runes b))] ⟨[.cv (.bool ((decide (a = b))))], []⟩ :=
  top20 rfl rfl [] trivial (w20 a b ha hb _ fun σ H h => ret1 rfl h)
def listR (x : List Int) (least most : Int) : Bool := decide (least ≤ x.length) && decide ((x.length : Int) ≤ most) && x.all valid
theorem w116 (x : List Int) (least most : Int) (hn : x.length < 9223372036854775808) (Q : Ex → Slots → LH → Prop) (hQ : ∀ σ H, Slots.get σ 6 = .c (.bool (listR x least most)) → Q .ret σ H) : rnC Try.prog b116 Q [(0, .c (.sl 1 (runes x))), (1, .c (.int .i64 least)), (2, .c (.int .i64 most))] [] := by
  unfold b116
  simp only [go_sem, ↓reduceIte, Nat.reduceEqDiff, Nat.reduceMul, Nat.reduceAdd, Nat.reduceDiv, Nat.reduceSub, Nat.reduceLT, Nat.reduceLeDiff, Int.reduceLE, Int.reduceLT, Int.reduceToNat, Int.reduceEq]
  repeat (refine ⟨by (first | omega | (intro h1 h2; exact ⟨h1, h2⟩) | (intro h1; omega) | (intro h1; exact h1) | trivial), ?_⟩)
  refine callK_1 _ (fun _ => cw129 x hn) (by simp only [go_sem, ↓reduceIte, Nat.reduceEqDiff, Nat.reduceMul, Nat.reduceAdd, Nat.reduceDiv, Nat.reduceSub, Nat.reduceLT, Nat.reduceLeDiff, Int.reduceLE, Int.reduceLT, Int.reduceToNat, Int.reduceEq]) rfl rfl ?_
  simp only [go_sem, ↓reduceIte, Nat.reduceEqDiff, Nat.reduceMul, Nat.reduceAdd, Nat.reduceDiv, Nat.reduceSub, Nat.reduceLT, Nat.reduceLeDiff, Int.reduceLE, Int.reduceLT, Int.reduceToNat, Int.reduceEq]
  repeat (refine ⟨by (first | omega | (intro h1 h2; exact ⟨h1, h2⟩) | (intro h1; omega) | (intro h1; exact h1) | trivial), ?_⟩)
  apply hQ
  all_goals simp only [go_sem, ↓reduceIte, Nat.reduceEqDiff, Nat.reduceMul, Nat.reduceAdd, Nat.reduceDiv, Nat.reduceSub, Nat.reduceLT, Nat.reduceLeDiff, Int.reduceLE, Int.reduceLT, Int.reduceToNat, Int.reduceEq, listR]
theorem cw116 (x : List Int) (least most : Int) (hn : x.length < 9223372036854775808) : CW Try.prog 116 [.cv (.sl 1 (runes x)), .cv (.int .i64 least), .cv (.int .i64 most)] ⟨[.cv (.bool (listR x least most))], []⟩ :=
  top116 rfl rfl [] trivial (w116 x least most hn _ fun σ H h => ret1 rfl h)
def speaksF (r : Rec) (c : Int) : Bool :=
  !decide (r.kind = 15) && decide (0 < stepR r) && decide (0 ≤ c) && decide (c ≤ 1114111) && decide (r.lo ≤ c) && decide (c ≤ r.hi) &&
    decide ((IntKind.u64.wrap (IntKind.u64.wrap c - IntKind.u64.wrap r.lo)).tmod (IntKind.u64.wrap (stepR r)) = 0)
theorem w68 (r : Rec) (c : Int) (hr : r.ok) (Q : Ex → Slots → LH → Prop) (hQ : ∀ σ H, Slots.get σ 4 = .c (.bool (speaksF r c)) → Q .ret σ H) : rnC Try.prog b68 Q [(0, .c (Rec.cv r)), (1, .c (.int .i64 c))] [] := by
  unfold b68
  have hn := hr.2.2.2.1
  unfold i64ok at hn
  simp only [go_sem, ↓reduceIte, Nat.reduceEqDiff, Nat.reduceMul, Nat.reduceAdd, Nat.reduceDiv, Nat.reduceSub, Nat.reduceLT, Nat.reduceLeDiff, Int.reduceLE, Int.reduceLT, Int.reduceToNat, Int.reduceEq]
  refine callK_1 _ (fun _ => cw107 _) (by simp only [go_sem, ↓reduceIte, Nat.reduceEqDiff, Nat.reduceMul, Nat.reduceAdd, Nat.reduceDiv, Nat.reduceSub, Nat.reduceLT, Nat.reduceLeDiff, Int.reduceLE, Int.reduceLT, Int.reduceToNat, Int.reduceEq]) rfl rfl ?_
  simp only [go_sem, ↓reduceIte, Nat.reduceEqDiff, Nat.reduceMul, Nat.reduceAdd, Nat.reduceDiv, Nat.reduceSub, Nat.reduceLT, Nat.reduceLeDiff, Int.reduceLE, Int.reduceLT, Int.reduceToNat, Int.reduceEq]
  repeat (refine ⟨by (first | omega | (intro h1 h2; exact ⟨h1, h2⟩) | (intro h1; omega) | (intro h1; exact h1) | trivial), ?_⟩)
  refine ⟨fun h => ?_, hQ _ _ ?_⟩
  · have : stepR r ≤ 9223372036854775807 := by unfold stepR; (repeat' split) <;> omega
    rw [wrap_u64]; omega
  · simp only [go_sem, ↓reduceIte, Nat.reduceEqDiff, Nat.reduceMul, Nat.reduceAdd, Nat.reduceDiv, Nat.reduceSub, Nat.reduceLT, Nat.reduceLeDiff, Int.reduceLE, Int.reduceLT, Int.reduceToNat, Int.reduceEq, speaksF]
    rw [Bool.beq_eq_decide_eq]
theorem cw68 (r : Rec) (c : Int) (hr : r.ok) : CW Try.prog 68 [.cv (Rec.cv r), .cv (.int .i64 c)] ⟨[.cv (.bool (speaksF r c))], []⟩ :=
  top68 rfl rfl [] trivial (w68 r c hr _ fun σ H h => ret1 rfl h)
def hit (l : List Rec) (f c : Int) : Option Rec := if f < 1 ∨ 9 < f then none else l.find? fun r => decide (famK r.kind = f) && speaksR r c
def l130_0 : IC := (.seq (.reg [⟨(some 8), 0, none, .bin .lss (.t 7) (.t 6)⟩]) (.seq (.cond (.t 8) .skip (.exit 0)) (.seq (.block 1 (.seq (.reg [⟨(some 9), 0, none, .ia (.t 5) (.t 7) 1⟩,
  ⟨(some 10), 0, none, .ld (.t 9) none⟩,
  ⟨(some 4), 0, none, .mv (.t 10)⟩]) (.seq (.reg [⟨(some 11), 0, none, .mv (.t 4)⟩,
  ⟨(some 12), 1, none, .call (.c (.fn 131)) [((.t 11), .plain)]⟩,
  ⟨(some 13), 0, none, .not (.t 12)⟩]) (.cond (.t 13) (.seq (.reg [⟨(some 2), 0, none, .mv (.c (.bool false))⟩]) .ret) .skip)))) (.reg [⟨(some 14), 0, none, .bin .add (.t 7) (.c (.int .i64 1))⟩,
  ⟨(some 7), 0, none, .mv (.t 14)⟩]))))
def n130_0 : Norm := ⟨[(5, .plain), (6, .plain), (7, .plain)], []⟩
def b130 : IC := (.seq (.reg [⟨(some 2), 0, none, .mv (.c (.bool false))⟩]) (.seq (.seq (.reg [⟨(some 5), 0, none, .mv (.t 0)⟩,
  ⟨(some 6), 0, none, .len false (.t 5)⟩,
  ⟨(some 7), 0, none, .mv (.c (.int .i64 0))⟩]) (.block 0 (.loop n130_0 l130_0))) (.seq (.reg [⟨(some 2), 0, none, .mv (.c (.bool true))⟩]) .ret)))
def rs130 : List (Nat × Option Nat × Mode) := [(2, none, .plain)]
theorem chk130 : chkC Try.prog Try.f130.ntmps b130 (Try.f130.body.getD .skip) = true := by decide +kernel
theorem top130 {args : List Arg} {out : Out} (ha : args.length.ble Try.f130.ntmps = true) (h8 : args.length.ble 8 = true) (mss : List (List (Option Nat))) (hb : backOK args out.back)
    (hw : rnC Try.prog b130 (topQ rs130 args mss out) (slotsOf (argsAV argBase args 0) 0) (argsOb argBase args 0)) : CW Try.prog 130 args out :=
  CW.of Try.func130 rs130 mss (by decide +kernel) (by decide +kernel) (by decide +kernel) ha h8 chk130 hb hw
def b118 : IC := (.seq (.reg [⟨(some 3), 1, none, .box (.t 0)⟩,
  ⟨(some 6), 0, none, .mv (.c (.bool false))⟩]) (.seq (.reg [⟨(some 7), 0, none, .fa (.t 3) 4⟩,
  ⟨(some 8), 0, none, .ld (.t 7) none⟩,
  ⟨(some 9), 0, none, .len false (.t 8)⟩,
  ⟨(some 10), 0, none, .mv (.t 1)⟩,
  ⟨(some 11), 0, none, .bin .geq (.t 9) (.t 10)⟩,
  ⟨(some 12), 0, none, .mv (.t 11)⟩,
  ⟨(some 13), 0, (some (12, true)), .fa (.t 3) 4⟩,
  ⟨(some 14), 0, (some (12, true)), .ld (.t 13) none⟩,
  ⟨(some 15), 0, (some (12, true)), .len false (.t 14)⟩,
  ⟨(some 16), 0, (some (12, true)), .mv (.t 2)⟩,
  ⟨(some 17), 0, (some (12, true)), .bin .leq (.t 15) (.t 16)⟩,
  ⟨(some 18), 0, none, .pick (.t 12) (.t 17) (.c (.bool false))⟩,
  ⟨(some 19), 0, none, .mv (.t 18)⟩,
  ⟨(some 20), 0, (some (19, true)), .fa (.t 3) 4⟩,
  ⟨(some 21), 0, (some (19, true)), .ld (.t 20) none⟩,
  ⟨(some 22), 2, (some (19, true)), .call (.c (.fn 130)) [((.t 21), .view 1)]⟩,
  ⟨(some 23), 0, none, .pick (.t 19) (.t 22) (.c (.bool false))⟩,
  ⟨(some 6), 0, none, .mv (.t 23)⟩]) .ret))
def rs118 : List (Nat × Option Nat × Mode) := [(6, none, .plain)]
theorem chk118 : chkC Try.prog Try.f118.ntmps b118 (Try.f118.body.getD .skip) = true := by decide +kernel
theorem top118 {args : List Arg} {out : Out} (ha : args.length.ble Try.f118.ntmps = true) (h8 : args.length.ble 8 = true) (mss : List (List (Option Nat))) (hb : backOK args out.back)
    (hw : rnC Try.prog b118 (topQ rs118 args mss out) (slotsOf (argsAV argBase args 0) 0) (argsOb argBase args 0)) : CW Try.prog 118 args out :=
  CW.of Try.func118 rs118 mss (by decide +kernel) (by decide +kernel) (by decide +kernel) ha h8 chk118 hb hw
def b117 : IC := (.seq (.reg [⟨(some 2), 1, none, .box (.t 0)⟩,
  ⟨(some 3), 2, none, .box (.t 1)⟩,
  ⟨(some 4), 0, none, .mv (.c (.bool false))⟩]) (.seq (.seq (.reg [⟨(some 5), 0, none, .fa (.t 2) 0⟩,
  ⟨(some 6), 0, none, .ld (.t 5) none⟩,
  ⟨(some 7), 0, none, .mv (.t 6)⟩,
  ⟨(some 8), 0, (some (7, true)), .fa (.t 3) 3⟩,
  ⟨(some 9), 0, (some (7, true)), .ld (.t 8) none⟩,
  ⟨(some 10), 0, (some (7, true)), .bin .neq (.t 9) (.c (.int .i64 0))⟩,
  ⟨(some 11), 0, none, .pick (.t 7) (.t 10) (.c (.bool false))⟩,
  ⟨(some 12), 0, none, .mv (.t 11)⟩,
  ⟨(some 13), 0, (some (12, false)), .fa (.t 2) 1⟩,
  ⟨(some 14), 0, (some (12, false)), .ld (.t 13) none⟩,
  ⟨(some 15), 0, (some (12, false)), .mv (.t 14)⟩,
  ⟨(some 16), 0, (some (15, true)), .fa (.t 3) 4⟩,
  ⟨(some 17), 0, (some (15, true)), .ld (.t 16) none⟩,
  ⟨(some 18), 0, (some (15, true)), .len false (.t 17)⟩,
  ⟨(some 19), 0, (some (15, true)), .bin .gtr (.t 18) (.c (.int .i64 0))⟩,
  ⟨(some 20), 0, (some (12, false)), .pick (.t 15) (.t 19) (.c (.bool false))⟩,
  ⟨(some 21), 0, none, .pick (.t 12) (.c (.bool true)) (.t 20)⟩]) (.cond (.t 21) (.seq (.reg [⟨(some 4), 0, none, .mv (.c (.bool false))⟩]) .ret) .skip)) (.seq (.reg [⟨(some 22), 0, none, .fa (.t 2) 2⟩,
  ⟨(some 23), 0, none, .ld (.t 22) none⟩,
  ⟨(some 24), 0, none, .mv (.t 23)⟩,
  ⟨(some 25), 0, (some (24, true)), .fa (.t 3) 5⟩,
  ⟨(some 26), 0, (some (24, true)), .ld (.t 25) none⟩,
  ⟨(some 27), 0, (some (24, true)), .bin .neq (.t 26) (.c (.str ⟨#[]⟩))⟩,
  ⟨(some 28), 0, none, .pick (.t 24) (.t 27) (.c (.bool false))⟩,
  ⟨(some 29), 0, none, .mv (.t 28)⟩,
  ⟨(some 30), 0, (some (29, false)), .fa (.t 3) 6⟩,
  ⟨(some 31), 0, (some (29, false)), .ld (.t 30) none⟩,
  ⟨(some 32), 0, (some (29, false)), .bin .neq (.t 31) (.c (.str ⟨#[]⟩))⟩,
  ⟨(some 33), 0, (some (29, false)), .mv (.t 32)⟩,
  ⟨(some 34), 0, (some (33, true)), .fa (.t 3) 0⟩,
  ⟨(some 35), 0, (some (33, true)), .ld (.t 34) none⟩,
  ⟨(some 36), 0, (some (33, true)), .bin .neq (.t 35) (.c (.int .i64 15))⟩,
  ⟨(some 37), 0, (some (29, false)), .pick (.t 33) (.t 36) (.c (.bool false))⟩,
  ⟨(some 38), 0, none, .pick (.t 29) (.c (.bool true)) (.t 37)⟩,
  ⟨(some 39), 0, none, .mv (.t 38)⟩,
  ⟨(some 40), 0, (some (39, false)), .fa (.t 2) 3⟩,
  ⟨(some 41), 0, (some (39, false)), .ld (.t 40) none⟩,
  ⟨(some 42), 0, (some (39, false)), .mv (.t 41)⟩,
  ⟨(some 43), 0, (some (42, true)), .fa (.t 3) 7⟩,
  ⟨(some 44), 0, (some (42, true)), .ld (.t 43) none⟩,
  ⟨(some 45), 3, (some (42, true)), .call (.c (.fn 69)) [((.t 44), .plain)]⟩,
  ⟨(some 46), 0, (some (42, true)), .bin .neq (.t 45) (.c (.int .u64 0))⟩,
  ⟨(some 47), 0, (some (39, false)), .pick (.t 42) (.t 46) (.c (.bool false))⟩,
  ⟨(some 48), 0, none, .pick (.t 39) (.c (.bool true)) (.t 47)⟩,
  ⟨(some 49), 0, none, .not (.t 48)⟩,
  ⟨(some 4), 0, none, .mv (.t 49)⟩]) .ret)))
def rs117 : List (Nat × Option Nat × Mode) := [(4, none, .plain)]
theorem chk117 : chkC Try.prog Try.f117.ntmps b117 (Try.f117.body.getD .skip) = true := by decide +kernel
theorem top117 {args : List Arg} {out : Out} (ha : args.length.ble Try.f117.ntmps = true) (h8 : args.length.ble 8 = true) (mss : List (List (Option Nat))) (hb : backOK args out.back)
    (hw : rnC Try.prog b117 (topQ rs117 args mss out) (slotsOf (argsAV argBase args 0) 0) (argsOb argBase args 0)) : CW Try.prog 117 args out :=
  CW.of Try.func117 rs117 mss (by decide +kernel) (by decide +kernel) (by decide +kernel) ha h8 chk117 hb hw
def b119 : IC := (.seq (.reg [⟨(some 1), 1, none, .box (.t 0)⟩,
  ⟨(some 2), 0, none, .mv (.c (.bool false))⟩]) (.seq (.seq (.reg [⟨(some 4), 0, none, .ld (.t 1) (some 8)⟩,
  ⟨(some 5), 2, none, .call (.c (.fn 121)) [((.t 4), .plain), ((.c (.int .i64 1)), .plain), ((.c (.int .i64 64)), .plain)]⟩,
  ⟨(some 6), 0, none, .not (.t 5)⟩,
  ⟨(some 7), 0, none, .mv (.t 6)⟩,
  ⟨(some 8), 0, (some (7, false)), .fa (.t 1) 4⟩,
  ⟨(some 9), 0, (some (7, false)), .ld (.t 8) none⟩,
  ⟨(some 10), 0, (some (7, false)), .len false (.t 9)⟩,
  ⟨(some 11), 0, (some (7, false)), .bin .neq (.t 10) (.c (.int .i64 1))⟩,
  ⟨(some 12), 0, none, .pick (.t 7) (.c (.bool true)) (.t 11)⟩,
  ⟨(some 13), 0, none, .mv (.t 12)⟩,
  ⟨(some 14), 0, (some (13, false)), .fa (.t 1) 4⟩,
  ⟨(some 15), 0, (some (13, false)), .ld (.t 14) none⟩,
  ⟨(some 16), 0, (some (13, false)), .ia (.t 15) (.c (.int .i64 0)) 1⟩,
  ⟨(some 17), 0, (some (13, false)), .ld (.t 16) none⟩,
  ⟨(some 18), 12, (some (13, false)), .call (.c (.fn 131)) [((.t 17), .plain)]⟩,
  ⟨(some 19), 0, (some (13, false)), .not (.t 18)⟩,
  ⟨(some 20), 0, none, .pick (.t 13) (.c (.bool true)) (.t 19)⟩]) (.cond (.t 20) (.seq (.reg [⟨(some 2), 0, none, .mv (.c (.bool false))⟩]) .ret) .skip)) (.seq (.draw (.take 0 ⟨(some 21), 0, none, .fa (.t 1) 4⟩ (.take 1 ⟨(some 22), 0, none, .ld (.t 21) none⟩ (.take 2 ⟨(some 23), 0, none, .ia (.t 22) (.c (.int .i64 0)) 1⟩ (.take 3 ⟨(some 24), 0, none, .ld (.t 23) none⟩ (.take 4 ⟨(some 25), 0, none, .fa (.t 1) 2⟩ (.take 5 ⟨(some 26), 0, none, .ld (.t 25) none⟩ (.take 6 ⟨(some 27), 0, none, .fa (.t 1) 1⟩ (.take 7 ⟨(some 28), 0, none, .ld (.t 27) none⟩ (.take 8 ⟨(some 29), 0, none, .bin .sub (.t 26) (.t 28)⟩ (.take 9 ⟨(some 30), 0, none, .conv .i32 (.t 29)⟩ (.take 10 ⟨(some 31), 0, none, .bin .add (.t 24) (.t 30)⟩ (.take 11 ⟨(some 3), 0, none, .mv (.t 31)⟩ .done))))))))))))) (.seq (.reg [⟨(some 32), 0, none, .mv (.t 3)⟩,
  ⟨(some 33), 22, none, .call (.c (.fn 131)) [((.t 32), .plain)]⟩,
  ⟨(some 34), 0, none, .mv (.t 33)⟩,
  ⟨(some 35), 0, (some (34, true)), .mv (.t 3)⟩,
  ⟨(some 36), 0, (some (34, true)), .bin .lss (.t 35) (.c (.int .i32 55296))⟩,
  ⟨(some 37), 0, (some (34, true)), .fa (.t 1) 4⟩,
  ⟨(some 38), 0, (some (34, true)), .ld (.t 37) none⟩,
  ⟨(some 39), 0, (some (34, true)), .ia (.t 38) (.c (.int .i64 0)) 1⟩,
  ⟨(some 40), 0, (some (34, true)), .ld (.t 39) none⟩,
  ⟨(some 41), 0, (some (34, true)), .bin .lss (.t 40) (.c (.int .i32 55296))⟩,
  ⟨(some 42), 0, (some (34, true)), .beq (.t 36) (.t 41)⟩,
  ⟨(some 43), 0, none, .pick (.t 34) (.t 42) (.c (.bool false))⟩,
  ⟨(some 2), 0, none, .mv (.t 43)⟩]) .ret))))
def rs119 : List (Nat × Option Nat × Mode) := [(2, none, .plain)]
theorem chk119 : chkC Try.prog Try.f119.ntmps b119 (Try.f119.body.getD .skip) = true := by decide +kernel
theorem top119 {args : List Arg} {out : Out} (ha : args.length.ble Try.f119.ntmps = true) (h8 : args.length.ble 8 = true) (mss : List (List (Option Nat))) (hb : backOK args out.back)
    (hw : rnC Try.prog b119 (topQ rs119 args mss out) (slotsOf (argsAV argBase args 0) 0) (argsOb argBase args 0)) : CW Try.prog 119 args out :=
  CW.of Try.func119 rs119 mss (by decide +kernel) (by decide +kernel) (by decide +kernel) ha h8 chk119 hb hw
theorem w130 (l : List Int) (hn : l.length < 9223372036854775808) (Q : Ex → Slots → LH → Prop) (hQ : ∀ σ H, Slots.get σ 2 = .c (.bool (l.all valid)) → Q .ret σ H) : rnC Try.prog b130 Q [(0, .c (.sl 1 (runes l)))] [] := by
  unfold b130
  simp only [go_sem, ↓reduceIte, Nat.reduceEqDiff, Nat.reduceMul, Nat.reduceAdd, Nat.reduceDiv, Nat.reduceSub, Nat.reduceLT, Nat.reduceLeDiff, Int.reduceLE, Int.reduceLT, Int.reduceToNat, Int.reduceEq]
  refine loopR.by (α := Nat) (fun k => [(5, .c (.sl 1 (runes l))), (6, .c (.int .i64 l.length)), (7, .c (.int .i64 k))]) (fun _ => []) (fun k => l.length - k)
    (fun k => k ≤ l.length ∧ (l.drop k).all valid = l.all valid) 0 ⟨by omega, rfl⟩ ?_ ?_
  · intro Y hY
    simp only [go_sem, ↓reduceIte, Nat.reduceEqDiff, Nat.reduceMul, Nat.reduceAdd, Nat.reduceDiv, Nat.reduceSub, Nat.reduceLT, Nat.reduceLeDiff, Int.reduceLE, Int.reduceLT, Int.reduceToNat, Int.reduceEq, n130_0]
    exact hY
  · intro k hk Y hY
    unfold l130_0
    rcases Nat.lt_or_ge k l.length with hlt | hge
    · obtain ⟨c, e, hm, hd⟩ := runes_at hlt
      have hf := hk.2
      rw [hd, List.all_cons] at hf
      simp only [go_sem, ↓reduceIte, Nat.reduceEqDiff, Nat.reduceMul, Nat.reduceAdd, Nat.reduceDiv, Nat.reduceSub, Nat.reduceLT, Nat.reduceLeDiff, Int.reduceLE, Int.reduceLT, Int.reduceToNat, Int.reduceEq, n130_0, e]
      refine ⟨fun _ => ⟨by omega, ?_⟩, fun h => by omega⟩
      refine callK_1 _ (fun _ => cw131 _) (by simp only [go_sem, ↓reduceIte, Nat.reduceEqDiff, Nat.reduceMul, Nat.reduceAdd, Nat.reduceDiv, Nat.reduceSub, Nat.reduceLT, Nat.reduceLeDiff, Int.reduceLE, Int.reduceLT, Int.reduceToNat, Int.reduceEq]) rfl rfl ?_
      simp only [go_sem, ↓reduceIte, Nat.reduceEqDiff, Nat.reduceMul, Nat.reduceAdd, Nat.reduceDiv, Nat.reduceSub, Nat.reduceLT, Nat.reduceLeDiff, Int.reduceLE, Int.reduceLT, Int.reduceToNat, Int.reduceEq]
      rw [succ64 hlt hn]
      refine ⟨fun h1 => hQ _ _ ?_, fun h1 => hY (k + 1) ⟨hlt, ?_⟩ (by omega)⟩
      · simp only [go_sem, ↓reduceIte, Nat.reduceEqDiff, Nat.reduceMul, Nat.reduceAdd, Nat.reduceDiv, Nat.reduceSub, Nat.reduceLT, Nat.reduceLeDiff, Int.reduceLE, Int.reduceLT, Int.reduceToNat, Int.reduceEq, ← hf, h1, Bool.false_and]
      · rw [← hf, h1, Bool.true_and]
    · simp only [go_sem, ↓reduceIte, Nat.reduceEqDiff, Nat.reduceMul, Nat.reduceAdd, Nat.reduceDiv, Nat.reduceSub, Nat.reduceLT, Nat.reduceLeDiff, Int.reduceLE, Int.reduceLT, Int.reduceToNat, Int.reduceEq, n130_0]
      refine ⟨fun h => by omega, fun _ => hQ _ _ ?_⟩
      have : k = l.length := by omega
      subst this
      have hf := hk.2
      rw [List.drop_length, List.all_nil] at hf
      simp only [go_sem, ↓reduceIte, Nat.reduceEqDiff, Nat.reduceMul, Nat.reduceAdd, Nat.reduceDiv, Nat.reduceSub, Nat.reduceLT, Nat.reduceLeDiff, Int.reduceLE, Int.reduceLT, Int.reduceToNat, Int.reduceEq, ← hf]
theorem cw130 (l : List Int) (hn : l.length < 9223372036854775808) : CW Try.prog 130 [.cv (.sl 1 (runes l))] ⟨[.cv (.bool (l.all valid))], []⟩ := top130 rfl rfl [] trivial (w130 l hn _ fun σ H h => ret1 rfl h)
def soundR (r : Rec) (least most : Int) : Bool := decide (least ≤ r.to.length) && decide ((r.to.length : Int) ≤ most) && r.to.all valid
theorem w118 (r : Rec) (least most : Int) (hn : r.to.length < 9223372036854775808) (Q : Ex → Slots → LH → Prop) (hQ : ∀ σ H, Slots.get σ 6 = .c (.bool (soundR r least most)) → Q .ret σ H) : rnC Try.prog b118 Q [(0, .c r.cv), (1, .c (.int .i64 least)), (2, .c (.int .i64 most))] [] := by
  unfold b118
  simp only [go_sem, ↓reduceIte, Nat.reduceEqDiff, Nat.reduceMul, Nat.reduceAdd, Nat.reduceDiv, Nat.reduceSub, Nat.reduceLT, Nat.reduceLeDiff, Int.reduceLE, Int.reduceLT, Int.reduceToNat, Int.reduceEq]
  refine callK_1 _ (fun _ => cw130 r.to hn) (by simp only [go_sem, ↓reduceIte, Nat.reduceEqDiff, Nat.reduceMul, Nat.reduceAdd, Nat.reduceDiv, Nat.reduceSub, Nat.reduceLT, Nat.reduceLeDiff, Int.reduceLE, Int.reduceLT, Int.reduceToNat, Int.reduceEq]) rfl rfl ?_
  simp only [go_sem, ↓reduceIte, Nat.reduceEqDiff, Nat.reduceMul, Nat.reduceAdd, Nat.reduceDiv, Nat.reduceSub, Nat.reduceLT, Nat.reduceLeDiff, Int.reduceLE, Int.reduceLT, Int.reduceToNat, Int.reduceEq]
  exact hQ _ _ rfl
theorem cw118 (r : Rec) (least most : Int) (hn : r.to.length < 9223372036854775808) : CW Try.prog 118 [.cv r.cv, .cv (.int .i64 least), .cv (.int .i64 most)] ⟨[.cv (.bool (soundR r least most))], []⟩ :=
  top118 rfl rfl [] trivial (w118 r least most hn _ fun σ H h => ret1 rfl h)
def noneR (n t m w : Bool) (r : Rec) : Bool :=
  if n = true ∧ ¬r.n = 0 ∨ t = true ∧ (0 : Int) < r.to.length then false
  else !(m && !decide (r.name.data.toList = []) || !decide (r.other.data.toList = []) && !decide (r.kind = 15) || w && (r.weight : Int) != 0)
theorem w117 (n t m w : Bool) (r : Rec) (Q : Ex → Slots → LH → Prop) (hQ : ∀ σ H, Slots.get σ 4 = .c (.bool (noneR n t m w r)) → Q .ret σ H) : rnC Try.prog b117 Q [(0, .c (.agg [.bool n, .bool t, .bool m, .bool w])), (1, .c r.cv)] [] := by
  unfold b117
  simp only [go_sem, ↓reduceIte, Nat.reduceEqDiff, Nat.reduceMul, Nat.reduceAdd, Nat.reduceDiv, Nat.reduceSub, Nat.reduceLT, Nat.reduceLeDiff, Int.reduceLE, Int.reduceLT, Int.reduceToNat, Int.reduceEq]
  refine ⟨fun h1 h2 => ⟨h1, h2⟩, fun h => hQ _ _ ?_, fun h => ⟨fun h1 h2 => ⟨h1, h2⟩, ?_⟩⟩
  · unfold noneR
    rw [if_pos h]
    rfl
  · refine callK_1 _ (fun _ => cw69 _) (by simp only [go_sem, ↓reduceIte, Nat.reduceEqDiff, Nat.reduceMul, Nat.reduceAdd, Nat.reduceDiv, Nat.reduceSub, Nat.reduceLT, Nat.reduceLeDiff, Int.reduceLE, Int.reduceLT, Int.reduceToNat, Int.reduceEq]) rfl rfl ?_
    simp only [go_sem, ↓reduceIte, Nat.reduceEqDiff, Nat.reduceMul, Nat.reduceAdd, Nat.reduceDiv, Nat.reduceSub, Nat.reduceLT, Nat.reduceLeDiff, Int.reduceLE, Int.reduceLT, Int.reduceToNat, Int.reduceEq]
    refine ⟨fun h1 h2 => ⟨h1, h2⟩, hQ _ _ ?_⟩
    simp only [go_sem, ↓reduceIte, Nat.reduceEqDiff, Nat.reduceMul, Nat.reduceAdd, Nat.reduceDiv, Nat.reduceSub, Nat.reduceLT, Nat.reduceLeDiff, Int.reduceLE, Int.reduceLT, Int.reduceToNat, Int.reduceEq]
    unfold noneR
    rw [if_neg]
    rintro (⟨h1, h2⟩ | ⟨h1, h2⟩)
    · rcases h.1 with h3 | h3
      · rw [h1] at h3; cases h3
      · exact h2 h3
    · rcases h.2 with h3 | h3
      · rw [h1] at h3; cases h3
      · omega
theorem cw117 (n t m w : Bool) (r : Rec) : CW Try.prog 117 [.cv (.agg [.bool n, .bool t, .bool m, .bool w]), .cv r.cv] ⟨[.cv (.bool (noneR n t m w r))], []⟩ :=
  top117 rfl rfl [] trivial (w117 n t m w r _ fun σ H h => ret1 rfl h)
def shiftsR (r : Rec) : Bool :=
  match r.to with
  | [a] =>
    let e := IntKind.i32.wrap (a + IntKind.i32.wrap (IntKind.i64.wrap (r.hi - r.lo)))
    decide (1 ≤ r.n) && decide (r.n ≤ 64) && valid a && valid e && (decide (e < 55296) == decide (a < 55296))
  | _ => false
theorem w119 (r : Rec) (Q : Ex → Slots → LH → Prop) (hQ : ∀ σ H, Slots.get σ 2 = .c (.bool (shiftsR r)) → Q .ret σ H) : rnC Try.prog b119 Q [(0, .c (Rec.cv r))] [] := by
  unfold b119
  simp only [go_sem, ↓reduceIte, Nat.reduceEqDiff, Nat.reduceMul, Nat.reduceAdd, Nat.reduceDiv, Nat.reduceSub, Nat.reduceLT, Nat.reduceLeDiff, Int.reduceLE, Int.reduceLT, Int.reduceToNat, Int.reduceEq]
  refine callK_1 _ (fun _ => cw121 r _ _) (by simp only [go_sem, ↓reduceIte, Nat.reduceEqDiff, Nat.reduceMul, Nat.reduceAdd, Nat.reduceDiv, Nat.reduceSub, Nat.reduceLT, Nat.reduceLeDiff, Int.reduceLE, Int.reduceLT, Int.reduceToNat, Int.reduceEq]) rfl rfl ?_
  simp only [go_sem, ↓reduceIte, Nat.reduceEqDiff, Nat.reduceMul, Nat.reduceAdd, Nat.reduceDiv, Nat.reduceSub, Nat.reduceLT, Nat.reduceLeDiff, Int.reduceLE, Int.reduceLT, Int.reduceToNat, Int.reduceEq]
  repeat (refine ⟨by (first | omega | (intro h1 h2; exact ⟨h1, h2⟩) | (intro h1; omega) | (intro h1; exact h1) | trivial), ?_⟩)
  cases hto : r.to with
  | nil =>
    have e0 : (runes ([] : List Int)).getD 0 .undef = .undef := rfl
    have hs : shiftsR r = false := by unfold shiftsR; rw [hto]
    rw [hs] at hQ
    simp only [go_sem, ↓reduceIte, Nat.reduceEqDiff, Nat.reduceMul, Nat.reduceAdd, Nat.reduceDiv, Nat.reduceSub, Nat.reduceLT, Nat.reduceLeDiff, Int.reduceLE, Int.reduceLT, Int.reduceToNat, Int.reduceEq, e0, List.length_nil]
    repeat (refine ⟨by (first | omega | (intro h1 h2; exact ⟨h1, h2⟩) | (intro h1; omega) | (intro h1; exact h1) | trivial), ?_⟩)
    refine callK_1 (.bool false) (fun h => by simp at h) (by simp only [go_sem, ↓reduceIte, Nat.reduceEqDiff, Nat.reduceMul, Nat.reduceAdd, Nat.reduceDiv, Nat.reduceSub, Nat.reduceLT, Nat.reduceLeDiff, Int.reduceLE, Int.reduceLT, Int.reduceToNat, Int.reduceEq]) rfl rfl ?_
    simp only [go_sem, ↓reduceIte, Nat.reduceEqDiff, Nat.reduceMul, Nat.reduceAdd, Nat.reduceDiv, Nat.reduceSub, Nat.reduceLT, Nat.reduceLeDiff, Int.reduceLE, Int.reduceLT, Int.reduceToNat, Int.reduceEq]
    exact hQ _ _ rfl
  | cons a l =>
    have e0 : (runes (a :: l)).getD 0 .undef = .int .i32 a := rfl
    simp only [go_sem, ↓reduceIte, Nat.reduceEqDiff, Nat.reduceMul, Nat.reduceAdd, Nat.reduceDiv, Nat.reduceSub, Nat.reduceLT, Nat.reduceLeDiff, Int.reduceLE, Int.reduceLT, Int.reduceToNat, Int.reduceEq, e0]
    repeat (refine ⟨by (first | omega | (intro h1 h2; exact ⟨h1, h2⟩) | (intro h1; omega) | (intro h1; exact h1) | trivial), ?_⟩)
    refine callK_1 _ (fun _ => cw131 a) (by simp only [go_sem, ↓reduceIte, Nat.reduceEqDiff, Nat.reduceMul, Nat.reduceAdd, Nat.reduceDiv, Nat.reduceSub, Nat.reduceLT, Nat.reduceLeDiff, Int.reduceLE, Int.reduceLT, Int.reduceToNat, Int.reduceEq]) rfl rfl ?_
    simp only [go_sem, ↓reduceIte, Nat.reduceEqDiff, Nat.reduceMul, Nat.reduceAdd, Nat.reduceDiv, Nat.reduceSub, Nat.reduceLT, Nat.reduceLeDiff, Int.reduceLE, Int.reduceLT, Int.reduceToNat, Int.reduceEq]
    repeat (refine ⟨by (first | omega | (intro h1 h2; exact ⟨h1, h2⟩) | (intro h1; omega) | (intro h1; exact h1) | trivial), ?_⟩)
    refine ⟨fun h => hQ _ _ ?_, fun h => ?_⟩
    · simp only [go_sem, ↓reduceIte, Nat.reduceEqDiff, Nat.reduceMul, Nat.reduceAdd, Nat.reduceDiv, Nat.reduceSub, Nat.reduceLT, Nat.reduceLeDiff, Int.reduceLE, Int.reduceLT, Int.reduceToNat, Int.reduceEq, shiftsR, hto]
      split
      · rename_i a' e
        cases e
        rcases h with h | h
        · have : (decide (1 ≤ r.n) && decide (r.n ≤ 64)) = false := by
            simp only [List.length_nil] at h
            rw [Bool.and_eq_false_iff, decide_eq_false_iff_not, decide_eq_false_iff_not]
            omega
          simp [this]
        · simp [h]
      · rfl
    · have hl : l = [] := by
        have := h.1.2
        cases l with
        | nil => rfl
        | cons => simp at this; omega
      subst hl
      have e1 : (runes [a]).getD 0 .undef = .int .i32 a := rfl
      simp only [go_sem, ↓reduceIte, Nat.reduceEqDiff, Nat.reduceMul, Nat.reduceAdd, Nat.reduceDiv, Nat.reduceSub, Nat.reduceLT, Nat.reduceLeDiff, Int.reduceLE, Int.reduceLT, Int.reduceToNat, Int.reduceEq, e1]
      repeat (refine ⟨by (first | omega | (intro h1 h2; exact ⟨h1, h2⟩) | (intro h1; omega) | (intro h1; exact h1) | trivial), ?_⟩)
      refine callK_1 _ (fun _ => cw131 _) (by simp only [go_sem, ↓reduceIte, Nat.reduceEqDiff, Nat.reduceMul, Nat.reduceAdd, Nat.reduceDiv, Nat.reduceSub, Nat.reduceLT, Nat.reduceLeDiff, Int.reduceLE, Int.reduceLT, Int.reduceToNat, Int.reduceEq]) rfl rfl ?_
      simp only [go_sem, ↓reduceIte, Nat.reduceEqDiff, Nat.reduceMul, Nat.reduceAdd, Nat.reduceDiv, Nat.reduceSub, Nat.reduceLT, Nat.reduceLeDiff, Int.reduceLE, Int.reduceLT, Int.reduceToNat, Int.reduceEq, e1]
      repeat (refine ⟨by (first | omega | (intro h1 h2; exact ⟨h1, h2⟩) | (intro h1; omega) | (intro h1; exact h1) | trivial), ?_⟩)
      refine hQ _ _ ?_
      simp only [go_sem, ↓reduceIte, Nat.reduceEqDiff, Nat.reduceMul, Nat.reduceAdd, Nat.reduceDiv, Nat.reduceSub, Nat.reduceLT, Nat.reduceLeDiff, Int.reduceLE, Int.reduceLT, Int.reduceToNat, Int.reduceEq, shiftsR, hto]
      have := h.1.1
      have h1 : decide (1 ≤ r.n) = true := by simpa using this.1
      have h2 : decide (r.n ≤ 64) = true := by simpa using this.2
      simp [h1, h2, h.2]
theorem cw119 (r : Rec) : CW Try.prog 119 [.cv (Rec.cv r)] ⟨[.cv (.bool (shiftsR r))], []⟩ :=
  top119 rfl rfl [] trivial (w119 r _ fun σ H h => ret1 rfl h)
end Go.Proofs.Ytcpdnpaedkcebaa.V
