/- Towards the law PackBits (bits that are turned over), part 6: the texts Yz Yy Pm Zb Xq Xt Yt, what of them is used. -/
import Derived.Test.YtcpdnpaedkcebaaZPackBits5
namespace Go.Proofs.Ytcpdnpaedkcebaa.V
open Go Go.RowKit
set_option linter.unusedVariables false
set_option linter.unusedSimpArgs false
set_option maxRecDepth 100000
theorem packF_len (l : List Rec) : (packF l).1.length ≤ 262144 := by
  unfold packF
  split
  · exact Nat.zero_le _
  · split
    · exact Nat.zero_le _
    · exact Nat.le_of_not_lt (by assumption)
theorem packF_ok {l : List Rec} (hok : ∀ r ∈ l, r.ok) (hw : ∀ r ∈ l, r.wok) (h : (packF l).2.2 = 0) : unpackF (packF l).1 = (l, 0, 0) ∧ packF l = (packB l, 0, 0) := by
  unfold packF at h ⊢
  by_cases h1 : (checkP l).2 ≠ 0
  · rw [if_pos h1] at h; exact absurd h h1
  rw [if_neg h1] at h ⊢
  by_cases h2 : 262144 < (packB l).length
  · rw [if_pos h2] at h; simp at h
  rw [if_neg h2]
  exact ⟨unpack_pack hok hw (by simpa using h1) (by omega), rfl⟩
end Go.Proofs.Ytcpdnpaedkcebaa.V
namespace Go.Proofs.Ytcpdnpaedkcebaa.V
open Go Go.RowKit
set_option linter.unusedVariables false
set_option linter.unusedSimpArgs false
set_option maxRecDepth 100000
theorem and_pos (x : Int) : 0 ≤ bitI .and .i64 x 1099511627775 ∧ bitI .and .i64 x 1099511627775 < 1099511627776 := by
  show 0 ≤ IntKind.i64.wrap ((BitVec.ofInt 64 x &&& BitVec.ofInt 64 1099511627775).toNat : Int) ∧ IntKind.i64.wrap ((BitVec.ofInt 64 x &&& BitVec.ofInt 64 1099511627775).toNat : Int) < 1099511627776
  rw [show BitVec.ofInt 64 1099511627775 = BitVec.ofNat 64 1099511627775 by decide, BitVec.toNat_and, BitVec.toNat_ofNat, Nat.mod_eq_of_lt (a := 1099511627775) (by decide), wrap_i64]
  have : (BitVec.ofInt 64 x).toNat &&& 1099511627775 ≤ 1099511627775 := Nat.and_le_right
  omega
end Go.Proofs.Ytcpdnpaedkcebaa.V
namespace Go.Proofs.Ytcpdnpaedkcebaa.V
open Go Go.RowKit
set_option linter.unusedVariables false
set_option linter.unusedSimpArgs false
set_option maxRecDepth 100000
theorem sn_up : ∀ (n v : Nat), Crc.sn n (2 ^ n * v) = v
  | 0, v => by simp [Crc.sn]
  | n + 1, v => by
    have h : Crc.s1 (2 ^ (n + 1) * v) = 2 ^ n * v := by
      have e : 2 ^ (n + 1) * v = 2 * (2 ^ n * v) := by rw [Nat.pow_succ, Nat.mul_comm (2 ^ n) 2, Nat.mul_assoc]
      unfold Crc.s1
      rw [e, if_neg (by omega)]
      omega
    rw [Crc.sn, h]
    exact sn_up n v
theorem low8 (v : Nat) : v ^^^ v % 256 = 2 ^ 8 * (v / 256) := by
  apply Nat.eq_of_testBit_eq
  intro i
  rw [Nat.testBit_xor, show (256 : Nat) = 2 ^ 8 from rfl, Nat.testBit_mod_two_pow, Nat.testBit_two_pow_mul, Nat.testBit_div_two_pow]
  by_cases h : i < 8
  · simp [h, show ¬(8 ≤ i) by omega]
  · simp [h, show 8 ≤ i by omega, show 8 + (i - 8) = i by omega]
theorem step8 (x v : Nat) : Crc.sn 8 ((x ^^^ v) ^^^ v % 256) = Crc.sn 8 x ^^^ v / 256 := by
  rw [Nat.xor_assoc, low8, Crc.sn_xor, sn_up]
theorem reg_sum (l : List UInt8) : reg 4294967295 (l ++ sum4 (sumW l)) = Crc.sn 32 4294967295 := by
  have hs := sumW_lt l
  have hr : reg 4294967295 l = 4294967295 ^^^ sumW l := by
    unfold sumW
    rw [← Nat.xor_assoc, Nat.xor_comm 4294967295, Nat.xor_assoc, Nat.xor_self, Nat.xor_zero]
  have b8 : ∀ d : Nat, (by8 ((d : Nat) : Int)).toNat = d % 256 := fun d => by have := by8_nat (d : Int); omega
  rw [reg_app, hr]
  generalize sumW l = s at *
  unfold reg nats sum4
  simp only [List.map_cons, List.map_nil, Crc.crc_cons, Crc.crc_nil, b8]
  rw [step8, show s / 65536 = s / 256 / 256 by omega, step8, show s / 16777216 = s / 256 / 256 / 256 by omega, step8, step8, show s / 256 / 256 / 256 / 256 = 0 by omega, Nat.xor_zero, ← Crc.sn_add, ← Crc.sn_add, ← Crc.sn_add]
theorem head_reg {b : List UInt8} (h : (headF b).2 = 0) : reg 4294967295 b = Crc.sn 32 4294967295 := by
  obtain ⟨-, h2, -, -⟩ := head_parts h
  have := reg_sum (b.take (b.length - 4))
  rw [h2, List.take_append_drop] at this
  exact this
theorem unpack_head {b : List UInt8} (h : (headF b).2 ≠ 0) : ¬(unpackF b).2.2 = 0 := by
  unfold unpackF
  rw [if_pos h]
  exact h
theorem bits_bad {b c : List UInt8} (h : (headF b).2 = 0) (hr : reg 4294967295 c ≠ reg 4294967295 b) : ¬(unpackF c).2.2 = 0 :=
  unpack_head fun hc => hr (by rw [head_reg h, head_reg hc])
def flipB (b : List UInt8) (i : Nat) : List UInt8 := b.set (i / 8) (b.getD (i / 8) 0 ^^^ by8 ((2 ^ (i % 8) : Nat) : Int))
theorem flipB_len (b : List UInt8) (i : Nat) : (flipB b i).length = b.length := by simp [flipB]
theorem nats_len (b : List UInt8) : (nats b).length = b.length := by simp [nats]
theorem nats_getD (b : List UInt8) (k : Nat) : (nats b).getD k 0 = (b.getD k 0).toNat := by
  unfold nats
  rw [List.getD_eq_getElem?_getD, List.getD_eq_getElem?_getD, List.getElem?_map]
  cases b[k]? <;> rfl
theorem nats_flip (b : List UInt8) (i : Nat) : nats (flipB b i) = Crc.flip (nats b) i := by
  unfold Crc.flip
  rw [nats_getD]
  unfold flipB
  have hp : (2 : Nat) ^ (i % 8) < 256 := Nat.lt_of_lt_of_le (Nat.pow_lt_pow_right (by decide) (Nat.mod_lt i (by decide))) (by decide)
  have : (by8 ((2 ^ (i % 8) : Nat) : Int)).toNat = 2 ^ (i % 8) := by8_small hp
  unfold nats
  rw [List.map_set, UInt8.toNat_xor, this]
def burstB (b : List UInt8) (p x : Nat) : Nat → List UInt8
  | 0 => b
  | m + 1 => if p + m < 8 * b.length ∧ x.testBit m then flipB (burstB b p x m) (p + m) else burstB b p x m
theorem burstB_len (b : List UInt8) (p x m : Nat) : (burstB b p x m).length = b.length := by
  induction m with
  | zero => rfl
  | succ m ih =>
    unfold burstB
    split
    · rw [flipB_len, ih]
    · exact ih
theorem nats_burst (b : List UInt8) (p x m : Nat) : nats (burstB b p x m) = Crc.burst (nats b) p x m := by
  induction m with
  | zero => rfl
  | succ m ih =>
    unfold burstB Crc.burst
    rw [nats_len]
    split
    · rw [nats_flip, ih]
    · exact ih
theorem nats_inj : ∀ {a b : List UInt8}, nats a = nats b → a = b
  | [], [], _ => rfl
  | [], _ :: _, h => by cases h
  | _ :: _, [], h => by cases h
  | x :: a, y :: b, h => by
    simp only [nats, List.map_cons] at h
    injection h with h1 h2
    rw [UInt8.toNat_inj.1 h1, nats_inj h2]
def three (b : List UInt8) (x y z : Nat) : List UInt8 :=
  let c := flipB b x
  let d := if y ≠ x then flipB c y else c
  if z ≠ x ∧ z ≠ y then flipB d z else d
theorem three_bad {b : List UInt8} (h : (headF b).2 = 0) (hl : b.length ≤ 8192) {x y z : Nat} (hx : x < 8 * b.length) (hy : y < 8 * b.length) (hz : z < 8 * b.length) : ¬(unpackF (three b x y z)).2.2 = 0 := by
  refine bits_bad h ?_
  have l1 : (nats b).length = b.length := nats_len b
  unfold three reg
  by_cases h1 : y = x
  · subst h1
    by_cases h2 : z = y
    · subst h2
      simp only [ne_eq, not_true_eq_false, if_false, and_self, nats_flip]
      exact Crc.flip1_ne _ _ _ (by omega)
    · simp only [ne_eq, not_true_eq_false, if_false, h2, not_false_eq_true, and_self, if_true, nats_flip]
      exact Crc.flip2_ne _ _ _ _ (by omega) (by omega) (by omega) (fun h => h2 h.symm)
  · by_cases h2 : z ≠ x ∧ z ≠ y
    · simp only [ne_eq, h1, not_false_eq_true, if_true]
      rw [if_pos h2, nats_flip, nats_flip, nats_flip]
      exact Crc.flip3_ne _ _ _ _ _ (by omega) (by omega) (by omega)
    · simp only [ne_eq, h1, not_false_eq_true, if_true]
      rw [if_neg h2, nats_flip, nats_flip]
      exact Crc.flip2_ne _ _ _ _ (by omega) (by omega) (by omega) (fun h => h1 h.symm)
theorem burst_bad {b : List UInt8} (h : (headF b).2 = 0) (p x : Nat) : burstB b p x 32 = b ∨ ¬(unpackF (burstB b p x 32)).2.2 = 0 := by
  rcases Crc.burst_ne (nats b) 4294967295 p x with h1 | h1
  · exact .inl (nats_inj (by rw [nats_burst]; exact h1))
  · refine .inr (bits_bad h ?_)
    unfold reg
    rw [nats_burst]
    exact h1
theorem uintP_3 {n : Int} (h0 : 0 ≤ n) (h : n ≤ 1114111) : (uintP n).length ≤ 3 := by
  unfold uintP
  rw [if_neg (by omega)]
  exact uintL_len n.toNat 2 (by simp only [Nat.reduceAdd, Nat.reducePow]; omega)
theorem list_small : ∀ l : List Int, (∀ c ∈ l, 0 ≤ c ∧ c ≤ 1114111) → (l.map uintP).flatten.length ≤ 3 * l.length
  | [], _ => by simp
  | c :: l, h => by
    have h1 := uintP_3 (h c List.mem_cons_self).1 (h c List.mem_cons_self).2
    have h2 := list_small l fun x hx => h x (List.mem_cons_of_mem _ hx)
    simp only [List.map_cons, List.flatten_cons, List.length_append, List.length_cons]
    omega
theorem rec_small {r : Rec} (hr : r.right) : (recL r).length ≤ 100 := by
  have hf := fields hr
  have hk := (right_parts hr).1
  have s1 := uintP_3 hf.low.1 (by have := hf.low; omega)
  have s2 : (uintP (IntKind.i64.wrap (r.hi - r.lo))).length ≤ 3 := by
    have := hf.low
    rw [show IntKind.i64.wrap (r.hi - r.lo) = r.hi - r.lo by rw [wrap_i64]; omega]
    exact uintP_3 (by omega) (by omega)
  have s3 := uintP_3 hf.num.1 hf.num.2
  have s4 : (toL r.to).length ≤ 75 := by
    have h1 := uintP_3 (n := (r.to.length : Int)) (by omega) (by have := hf.to.1; omega)
    have h2 := list_small r.to hf.to.2
    have := hf.to.1
    unfold toL
    rw [List.length_append]
    omega
  have tx : ∀ s : ByteArray, s.size ≤ 4 → (textL s).length ≤ 7 := fun s hs => by
    unfold textL
    have := uintP_3 (n := (s.size : Int)) (by omega) (by omega)
    rw [uintP_nat] at this
    have hz : s.data.toList.length = s.size := by simp
    rw [List.length_append]; omega
  have s5 := tx _ hf.name
  have s6 := tx _ hf.other
  have s7 : (floatL r.weight).length = 8 := floatI_len _ _
  have s8 : r.kind = 4 → (uintP (r.to.getD 0 0)).length ≤ 3 := fun h4 => by
    obtain ⟨c, hc⟩ := hf.to1 h4
    have := hf.to.2 c (by rw [hc]; exact List.mem_singleton.2 rfl)
    rw [hc]
    exact uintP_3 this.1 this.2
  unfold recL
  rw [List.length_cons]
  rcases kind_groups hk with g | g | g | g | g | g | g | g
  · rw [pA g]; simp only [List.flatMap_cons, List.flatMap_nil, List.append_nil, writeF_81, writeF_84, List.length_append]; omega
  · rw [pB g]; simp only [List.flatMap_cons, List.flatMap_nil, List.append_nil, writeF_81, writeF_84, writeF_90, List.length_append]; omega
  · have s8 := s8 g
    rw [pC g]; simp only [List.flatMap_cons, List.flatMap_nil, List.append_nil, writeF_81, writeF_84, writeF_86, writeF_88, List.length_append]; omega
  · rw [pD g]; simp only [List.flatMap_cons, List.flatMap_nil, List.append_nil, writeF_81, writeF_90, List.length_append]; omega
  · rw [pE g]; simp only [List.flatMap_cons, List.flatMap_nil, List.append_nil, writeF_81, writeF_84, writeF_86, List.length_append]; omega
  · rw [pF g]; simp only [List.flatMap_cons, List.flatMap_nil, List.append_nil, writeF_81, writeF_84, writeF_92, List.length_append]; omega
  · rw [pG g]; simp only [List.flatMap_cons, List.flatMap_nil, List.append_nil, writeF_81, writeF_84, writeF_98, List.length_append]; omega
  · rw [pH g]; simp only [List.flatMap_cons, List.flatMap_nil, List.append_nil, writeF_92, writeF_96, writeF_98, List.length_append]; omega
theorem recs_small : ∀ l : List Rec, (∀ r ∈ l, r.right) → (l.flatMap recL).length ≤ 100 * l.length
  | [], _ => by simp
  | r :: l, h => by
    have h1 := rec_small (h r List.mem_cons_self)
    have h2 := recs_small l fun x hx => h x (List.mem_cons_of_mem _ hx)
    simp only [List.flatMap_cons, List.length_append, List.length_cons]
    omega
theorem pack_small {l : List Rec} (hr : ∀ r ∈ l, r.right) (hn : l.length ≤ 60) : (packB l).length ≤ 8192 := by
  have h1 := recs_small l hr
  have h2 := uintP_3 (n := (l.length : Int)) (by omega) (by omega)
  rw [uintP_nat] at h2
  rw [packB_eq, List.length_append, sum4_len, body_five, List.length_append, List.length_append]
  simp only [List.length_cons, List.length_nil]
  omega
end Go.Proofs.Ytcpdnpaedkcebaa.V
namespace Go.Proofs.Ytcpdnpaedkcebaa.V
open Go Go.RowKit
set_option linter.unusedVariables false
set_option linter.unusedSimpArgs false
set_option maxRecDepth 100000
def b38 : IC := (.reg [⟨(some 4), 0, none, .mv (.t 0)⟩,
  ⟨(some 5), 0, none, .mv (.t 1)⟩,
  ⟨(some 6), 0, none, .bin .quo (.t 5) (.c (.int .i64 8))⟩,
  ⟨(some 7), 0, none, .mv (.t 0)⟩,
  ⟨(some 8), 0, none, .mv (.t 1)⟩,
  ⟨(some 9), 0, none, .bin .quo (.t 8) (.c (.int .i64 8))⟩,
  ⟨(some 10), 0, none, .ia (.t 7) (.t 9) 1⟩,
  ⟨(some 11), 0, none, .ld (.t 10) none⟩,
  ⟨(some 12), 0, none, .mv (.t 1)⟩,
  ⟨(some 13), 0, none, .bin .rem (.t 12) (.c (.int .i64 8))⟩,
  ⟨(some 14), 0, none, .conv .u64 (.t 13)⟩,
  ⟨(some 15), 0, none, .bin .shl (.c (.int .u8 1)) (.t 14)⟩,
  ⟨(some 16), 0, none, .bin .xor (.t 11) (.t 15)⟩,
  ⟨(some 17), 0, none, .ia (.t 4) (.t 6) 1⟩,
  ⟨none, 0, none, .st (.t 17) (.t 16) none⟩])
def rs38 : List (Nat × Option Nat × Mode) := []
theorem chk38 : chkC Try.prog Try.f38.ntmps b38 (Try.f38.body.getD .skip) = true := by decide +kernel
theorem top38 {args : List Arg} {out : Out} (ha : args.length.ble Try.f38.ntmps = true) (h8 : args.length.ble 8 = true) (mss : List (List (Option Nat))) (hb : backOK args out.back)
    (hw : rnC Try.prog b38 (topQ rs38 args mss out) (slotsOf (argsAV argBase args 0) 0) (argsOb argBase args 0)) : CW Try.prog 38 args out :=
  CW.of Try.func38 rs38 mss (by decide +kernel) (by decide +kernel) (by decide +kernel) ha h8 chk38 hb hw
def l12_0 : IC := (.seq (.seq (.reg [⟨(some 81), 0, none, .mv (.t 20)⟩,
  ⟨(some 82), 0, none, .bin .lss (.t 81) (.c (.int .i64 32))⟩,
  ⟨(some 83), 0, none, .mv (.t 82)⟩,
  ⟨(some 84), 0, (some (83, true)), .mv (.t 19)⟩,
  ⟨(some 85), 0, (some (83, true)), .mv (.t 20)⟩,
  ⟨(some 86), 0, (some (83, true)), .bin .add (.t 84) (.t 85)⟩,
  ⟨(some 87), 0, (some (83, true)), .mv (.t 14)⟩,
  ⟨(some 88), 0, (some (83, true)), .bin .lss (.t 86) (.t 87)⟩,
  ⟨(some 89), 0, none, .pick (.t 83) (.t 88) (.c (.bool false))⟩]) (.cond (.t 89) .skip (.exit 0))) (.seq (.block 1 (.seq (.reg [⟨(some 92), 0, none, .mv (.t 4)⟩,
  ⟨(some 93), 0, none, .mv (.t 20)⟩,
  ⟨(some 94), 0, none, .conv .u64 (.t 93)⟩,
  ⟨(some 95), 0, none, .bin .shr (.t 92) (.t 94)⟩,
  ⟨(some 96), 0, none, .bin .and (.t 95) (.c (.int .u32 1))⟩,
  ⟨(some 97), 0, none, .bin .eql (.t 96) (.c (.int .u32 1))⟩]) (.cond (.t 97) (.reg [⟨(some 98), 0, none, .mv (.t 16)⟩,
  ⟨(some 99), 0, none, .mv (.t 19)⟩,
  ⟨(some 100), 0, none, .mv (.t 20)⟩,
  ⟨(some 101), 0, none, .bin .add (.t 99) (.t 100)⟩,
  ⟨(some 102), 63, none, .call (.c (.fn 38)) [((.t 98), .mutr), ((.t 101), .plain)]⟩]) .skip))) (.reg [⟨(some 90), 0, none, .mv (.t 20)⟩,
  ⟨(some 91), 0, none, .bin .add (.t 90) (.c (.int .i64 1))⟩,
  ⟨(some 20), 0, none, .mv (.t 91)⟩])))
def n12_0 : Norm := ⟨[(4, .plain), (11, .plain), (14, .plain), (15, .own 1 1000015), (16, .own 1 1000016), (19, .plain), (20, .plain)], []⟩
def b12 : IC := (.seq (.reg [⟨(some 10), 0, none, .mv (.c (.bool false))⟩]) (.seq (.reg [⟨(some 28), 0, none, .mv (.t 0)⟩,
  ⟨(some 29), 1, none, .call (.c (.fn 31)) [((.t 28), .view 8), ((.c (.int .i64 60)), .plain)]⟩,
  ⟨(some 30), 11, none, .call (.c (.fn 32)) [((.t 29), .view 8)]⟩,
  ⟨(some 27), 0, none, .mv (.t 30)⟩,
  ⟨(some 31), 0, none, .ext (.t 27) 0⟩,
  ⟨(some 32), 0, none, .ext (.t 27) 1⟩,
  ⟨(some 33), 0, none, .ext (.t 27) 2⟩,
  ⟨(some 11), 0, none, .mv (.t 31)⟩,
  ⟨(some 12), 0, none, .mv (.t 32)⟩,
  ⟨(some 13), 0, none, .mv (.t 33)⟩]) (.seq (.seq (.reg [⟨(some 34), 0, none, .mv (.t 13)⟩,
  ⟨(some 35), 0, none, .bin .neq (.t 34) (.c (.int .i64 0))⟩]) (.cond (.t 35) (.seq (.reg [⟨(some 36), 21, none, .call (.c (.fn 34)) []⟩,
  ⟨(some 10), 0, none, .mv (.t 36)⟩]) .ret) .skip)) (.seq (.seq (.reg [⟨(some 37), 0, none, .mv (.t 11)⟩,
  ⟨(some 38), 0, none, .len false (.t 37)⟩,
  ⟨(some 39), 0, none, .bin .eql (.t 38) (.c (.int .i64 0))⟩]) (.cond (.t 39) (.seq (.reg [⟨(some 10), 0, none, .mv (.c (.bool false))⟩]) .ret) .skip)) (.seq (.reg [⟨(some 40), 0, none, .mv (.t 11)⟩,
  ⟨(some 41), 0, none, .len false (.t 40)⟩,
  ⟨(some 42), 0, none, .bin .mul (.c (.int .i64 8)) (.t 41)⟩,
  ⟨(some 14), 0, none, .mv (.t 42)⟩]) (.seq (.reg [⟨(some 15), 0, none, .mv (.c .nilsl)⟩,
  ⟨(some 16), 0, none, .mv (.c .nilsl)⟩]) (.seq (.reg [⟨(some 43), 0, none, .mv (.t 15)⟩,
  ⟨(some 44), 0, none, .mv (.t 11)⟩,
  ⟨(some 45), 31, none, .app (.t 43) (.t 44) 1 1 false⟩,
  ⟨(some 15), 0, none, .mv (.t 45)⟩]) (.seq (.reg [⟨(some 46), 0, none, .mv (.t 16)⟩,
  ⟨(some 47), 0, none, .mv (.t 11)⟩,
  ⟨(some 48), 32, none, .app (.t 46) (.t 47) 1 1 false⟩,
  ⟨(some 16), 0, none, .mv (.t 48)⟩]) (.seq (.draw (.take 0 ⟨(some 49), 0, none, .mv (.t 1)⟩ (.take 1 ⟨(some 50), 0, none, .bin .and (.t 49) (.c (.int .i64 1099511627775))⟩ (.take 2 ⟨(some 51), 0, none, .mv (.t 14)⟩ (.take 3 ⟨(some 52), 0, none, .bin .rem (.t 50) (.t 51)⟩ (.take 4 ⟨(some 53), 0, none, .mv (.t 2)⟩ (.take 5 ⟨(some 54), 0, none, .bin .and (.t 53) (.c (.int .i64 1099511627775))⟩ (.take 6 ⟨(some 55), 0, none, .mv (.t 14)⟩ (.take 7 ⟨(some 56), 0, none, .bin .rem (.t 54) (.t 55)⟩ (.take 8 ⟨(some 57), 0, none, .mv (.t 3)⟩ (.take 9 ⟨(some 58), 0, none, .bin .and (.t 57) (.c (.int .i64 1099511627775))⟩ (.take 10 ⟨(some 59), 0, none, .mv (.t 14)⟩ (.take 11 ⟨(some 60), 0, none, .bin .rem (.t 58) (.t 59)⟩ (.take 12 ⟨(some 17), 0, none, .mv (.t 52)⟩ (.take 13 ⟨(some 18), 0, none, .mv (.t 56)⟩ (.take 14 ⟨(some 19), 0, none, .mv (.t 60)⟩ .done)))))))))))))))) (.seq (.reg [⟨(some 61), 0, none, .mv (.t 15)⟩,
  ⟨(some 62), 0, none, .mv (.t 17)⟩,
  ⟨(some 63), 33, none, .call (.c (.fn 38)) [((.t 61), .mutr), ((.t 62), .plain)]⟩]) (.seq (.seq (.reg [⟨(some 64), 0, none, .mv (.t 18)⟩,
  ⟨(some 65), 0, none, .mv (.t 17)⟩,
  ⟨(some 66), 0, none, .bin .neq (.t 64) (.t 65)⟩]) (.cond (.t 66) (.reg [⟨(some 67), 0, none, .mv (.t 15)⟩,
  ⟨(some 68), 0, none, .mv (.t 18)⟩,
  ⟨(some 69), 43, none, .call (.c (.fn 38)) [((.t 67), .mutr), ((.t 68), .plain)]⟩]) .skip)) (.seq (.seq (.reg [⟨(some 70), 0, none, .mv (.t 19)⟩,
  ⟨(some 71), 0, none, .mv (.t 17)⟩,
  ⟨(some 72), 0, none, .bin .neq (.t 70) (.t 71)⟩,
  ⟨(some 73), 0, none, .mv (.t 72)⟩,
  ⟨(some 74), 0, (some (73, true)), .mv (.t 19)⟩,
  ⟨(some 75), 0, (some (73, true)), .mv (.t 18)⟩,
  ⟨(some 76), 0, (some (73, true)), .bin .neq (.t 74) (.t 75)⟩,
  ⟨(some 77), 0, none, .pick (.t 73) (.t 76) (.c (.bool false))⟩]) (.cond (.t 77) (.reg [⟨(some 78), 0, none, .mv (.t 15)⟩,
  ⟨(some 79), 0, none, .mv (.t 19)⟩,
  ⟨(some 80), 53, none, .call (.c (.fn 38)) [((.t 78), .mutr), ((.t 79), .plain)]⟩]) .skip)) (.seq (.seq (.reg [⟨(some 20), 0, none, .mv (.c (.int .i64 0))⟩]) (.block 0 (.loop n12_0 l12_0))) (.seq (.pub 15 (.reg [⟨(some 104), 0, none, .mv (.t 15)⟩,
  ⟨(some 105), 73, none, .call (.c (.fn 37)) [((.t 104), .view 1)]⟩,
  ⟨(some 103), 0, none, .mv (.t 105)⟩,
  ⟨(some 106), 0, none, .ext (.t 103) 0⟩,
  ⟨(some 107), 0, none, .ext (.t 103) 1⟩,
  ⟨(some 108), 0, none, .ext (.t 103) 2⟩,
  ⟨(some 21), 0, none, .mv (.t 106)⟩,
  ⟨(some 22), 0, none, .mv (.t 107)⟩,
  ⟨(some 23), 0, none, .mv (.t 108)⟩])) (.seq (.pub 16 (.reg [⟨(some 110), 0, none, .mv (.t 16)⟩,
  ⟨(some 111), 83, none, .call (.c (.fn 37)) [((.t 110), .view 1)]⟩,
  ⟨(some 109), 0, none, .mv (.t 111)⟩,
  ⟨(some 112), 0, none, .ext (.t 109) 0⟩,
  ⟨(some 113), 0, none, .ext (.t 109) 1⟩,
  ⟨(some 114), 0, none, .ext (.t 109) 2⟩,
  ⟨(some 24), 0, none, .mv (.t 112)⟩,
  ⟨(some 25), 0, none, .mv (.t 113)⟩,
  ⟨(some 26), 0, none, .mv (.t 114)⟩])) (.seq (.reg [⟨(some 115), 93, none, .call (.c (.fn 34)) []⟩,
  ⟨(some 116), 0, none, .mv (.t 115)⟩,
  ⟨(some 117), 0, (some (116, true)), .mv (.t 23)⟩,
  ⟨(some 118), 0, (some (116, true)), .bin .neq (.t 117) (.c (.int .i64 0))⟩,
  ⟨(some 119), 0, none, .pick (.t 116) (.t 118) (.c (.bool false))⟩,
  ⟨(some 120), 0, none, .mv (.t 119)⟩,
  ⟨(some 121), 0, (some (120, true)), .mv (.t 26)⟩,
  ⟨(some 122), 0, (some (120, true)), .bin .neq (.t 121) (.c (.int .i64 0))⟩,
  ⟨(some 123), 0, (some (120, true)), .mv (.t 122)⟩,
  ⟨(some 124), 0, (some (123, false)), .mv (.t 16)⟩,
  ⟨(some 125), 0, (some (123, false)), .b2s (.t 124)⟩,
  ⟨(some 126), 0, (some (123, false)), .mv (.t 11)⟩,
  ⟨(some 127), 0, (some (123, false)), .b2s (.t 126)⟩,
  ⟨(some 128), 0, (some (123, false)), .bin .eql (.t 125) (.t 127)⟩,
  ⟨(some 129), 0, (some (120, true)), .pick (.t 123) (.c (.bool true)) (.t 128)⟩,
  ⟨(some 130), 0, none, .pick (.t 120) (.t 129) (.c (.bool false))⟩,
  ⟨(some 10), 0, none, .mv (.t 130)⟩]) .ret))))))))))))))))
def rs12 : List (Nat × Option Nat × Mode) := [(10, none, .plain)]
theorem chk12 : chkC Try.prog Try.f12.ntmps b12 (Try.f12.body.getD .skip) = true := by decide +kernel
theorem top12 {args : List Arg} {out : Out} (ha : args.length.ble Try.f12.ntmps = true) (h8 : args.length.ble 8 = true) (mss : List (List (Option Nat))) (hb : backOK args out.back)
    (hw : rnC Try.prog b12 (topQ rs12 args mss out) (slotsOf (argsAV argBase args 0) 0) (argsOb argBase args 0)) : CW Try.prog 12 args out :=
  CW.of Try.func12 rs12 mss (by decide +kernel) (by decide +kernel) (by decide +kernel) ha h8 chk12 hb hw
theorem xor_u8 (a : UInt8) (k : Nat) (hk : k < 8) : bitI .xor .u8 (a.toNat : Int) (IntKind.u8.wrap (1 * 2 ^ min k 8)) = ((a ^^^ by8 ((2 ^ k : Nat) : Int)).toNat : Int) := by
  have hp : (2 : Nat) ^ k < 256 := Nat.lt_of_lt_of_le (Nat.pow_lt_pow_right (by decide) hk) (by decide)
  have e1 : IntKind.u8.wrap (1 * 2 ^ min k 8) = ((2 ^ k : Nat) : Int) := by
    rw [Nat.min_eq_left (by omega), Int.one_mul, show (2 : Int) ^ k = ((2 ^ k : Nat) : Int) by norm_cast, wrap_u8]
    generalize 2 ^ k = p at hp ⊢
    omega
  rw [e1, UInt8.toNat_xor, by8_small hp]
  have ha := a.toNat_lt
  have e : ∀ m : Nat, BitVec.ofInt 8 (m : Int) = BitVec.ofNat 8 m := fun m => by apply BitVec.eq_of_toNat_eq; simp [BitVec.toNat_ofInt]
  show IntKind.u8.wrap ((BitVec.ofInt 8 (a.toNat : Int) ^^^ BitVec.ofInt 8 ((2 ^ k : Nat) : Int)).toNat : Int) = _
  rw [e, e, BitVec.toNat_xor, BitVec.toNat_ofNat, BitVec.toNat_ofNat, Nat.mod_eq_of_lt (by omega), Nat.mod_eq_of_lt (by omega), wrap_u8]
  have : a.toNat ^^^ 2 ^ k < 2 ^ 8 := Nat.xor_lt_two_pow (by omega) (by omega)
  omega
theorem flip_cv (b : List UInt8) (i : Nat) : (bys b).set (i / 8) (.int .u8 ((b.getD (i / 8) 0 ^^^ by8 ((2 ^ (i % 8) : Nat) : Int)).toNat : Int)) = bys (flipB b i) := by
  unfold flipB bys
  rw [List.map_set]; rfl
theorem w38 (b : List UInt8) (i : Nat) (hi : i < 8 * b.length) (hb : b.length < 1000000000000000) (Q : Ex → Slots → LH → Prop) (hQ : ∀ σ H, LH.get H 3000000 = some (.row 1 (bys (flipB b i))) → Q .norm σ H) :
    rnC Try.prog b38 Q [(0, .osl 3000000 0 b.length), (1, .c (.int .i64 i))] [(3000000, .row 1 (bys b))] := by
  unfold b38
  have e1 : IntKind.i64.wrap ((i : Int).tdiv 8) = ((i / 8 : Nat) : Int) := by
    rw [Int.tdiv_eq_ediv_of_nonneg (by omega), wrap_i64]; omega
  have e2 : IntKind.u64.wrap ((i : Int).tmod 8) = ((i % 8 : Nat) : Int) := by
    rw [Int.tmod_eq_emod_of_nonneg (by omega), wrap_u64]; omega
  have eb := bys_getD (b := b) (k := i / 8) (by omega)
  have ex := xor_u8 (b.getD (i / 8) 0) (i % 8) (Nat.mod_lt _ (by decide))
  simp only [go_sem, ↓reduceIte, Nat.reduceEqDiff, Nat.reduceMul, Nat.reduceAdd, Nat.reduceDiv, Nat.reduceSub, Nat.reduceLT, Nat.reduceLeDiff, Int.reduceLE, Int.reduceLT, Int.reduceToNat, Int.reduceEq, e1, e2, eb, ex, flip_cv]
  exact ⟨⟨by omega, by omega⟩, by omega, ⟨by omega, by omega⟩, hQ _ _ rfl⟩
theorem cw38 (b : List UInt8) (i : Nat) (hi : i < 8 * b.length) (hb : b.length < 1000000000000000) : CW Try.prog 38 [.mutr 1 (bys b), .cv (.int .i64 i)] ⟨[], [[.own 1 (bys (flipB b i))]]⟩ := by
  have hl := bys_len b
  refine top38 rfl rfl [] ⟨rfl, by rw [bys_len, bys_len, flipB_len], trivial⟩ ?_
  have := w38 b i hi hb (topQ rs38 [.mutr 1 (bys b), .cv (.int .i64 i)] [] ⟨[], [[.own 1 (bys (flipB b i))]]⟩) fun σ H h => ?_
  · rw [← hl] at this
    exact this
  · show retW σ H _ _ _ _
    unfold retW
    simp only [rs38, retVals, argsW, backL, argBase, Nat.mul_zero, Nat.add_zero, h, argW, ungW, true_and, List.append_nil, List.nil_append, backArgs, List.map_nil]
    simp
theorem two_pow_cast (q : Nat) : (2 : Int) ^ q = ((2 ^ q : Nat) : Int) := by norm_cast
theorem burst_more {b : List UInt8} {z x q : Nat} (h : 8 * b.length ≤ z + q) : ∀ k, burstB b z x (q + k) = burstB b z x q
  | 0 => rfl
  | k + 1 => by
    rw [← Nat.add_assoc, burstB, if_neg (fun x => by omega), burst_more h k]
theorem burst_stop {b : List UInt8} {z x q : Nat} (hq : q ≤ 32) (h : q = 32 ∨ 8 * b.length ≤ z + q) : burstB b z x q = burstB b z x 32 := by
  rcases h with h | h
  · rw [h]
  · have := burst_more (x := x) h (32 - q)
    rw [Nat.add_sub_cancel' hq] at this
    exact this.symm
theorem bit_test {pat : Int} {q : Nat} (h0 : 0 ≤ pat) (h : pat < 4294967296) (hq : q < 32) : bitI .and .u32 (pat.fdiv (2 ^ min q 32)) 1 = ((pat.toNat / 2 ^ q % 2 : Nat) : Int) := by
  obtain ⟨p, rfl⟩ := Int.eq_ofNat_of_zero_le h0
  have hlt : p / 2 ^ q < 4294967296 := Nat.lt_of_le_of_lt (Nat.div_le_self _ _) (by omega)
  rw [Nat.min_eq_left (by omega), two_pow_cast, fdiv_nat, and32 hlt, show ((p : Nat) : Int).toNat = p from Int.toNat_natCast p]
theorem packF_right {l : List Rec} (hok : ∀ r ∈ l, r.ok) (h : (packF l).2.2 = 0) : ∀ r ∈ l, r.right := by
  unfold packF at h
  by_cases h1 : (checkP l).2 ≠ 0
  · rw [if_pos h1] at h; exact absurd h h1
  · exact check_right hok (by simpa using h1)
theorem w12 (l : List Rec) (i j k pat : Int) (hl : ∀ r ∈ l, r.ok) (hwt : ∀ r ∈ l, r.wok) (hto : ∀ r ∈ l, r.to.length ≤ 35184372088832) (hn : l.length < 9223372036854775808) (hp : 0 ≤ pat ∧ pat < 4294967296) (Q : Ex → Slots → LH → Prop) (hQ : ∀ σ H, Slots.get σ 10 = .c (.bool true) → Q .ret σ H) : rnC Try.prog b12 Q [(0, .c (.sl 8 (recs l))), (1, .c (.int .i64 i)), (2, .c (.int .i64 j)), (3, .c (.int .i64 k)), (4, .c (.int .u32 pat))] [] := by
  unfold b12
  have hl' : ∀ r ∈ l.take 60, r.ok := fun r h => hl r (List.mem_of_mem_take h)
  have hw' : ∀ r ∈ l.take 60, r.wok := fun r h => hwt r (List.mem_of_mem_take h)
  have ht' : ∀ r ∈ l.take 60, r.to.length ≤ 35184372088832 := fun r h => hto r (List.mem_of_mem_take h)
  have hn' : (l.take 60).length ≤ 60 := by rw [List.length_take]; omega
  simp only [go_sem, ↓reduceIte, Nat.reduceEqDiff, Nat.reduceMul, Nat.reduceAdd, Nat.reduceDiv, Nat.reduceSub, Nat.reduceLT, Nat.reduceLeDiff, Int.reduceLE, Int.reduceLT, Int.reduceToNat, Int.reduceEq]
  refine callK_1 _ (fun _ => cw31 l 60 (by decide) hn hto) (by simp only [go_sem, ↓reduceIte, Nat.reduceEqDiff, Nat.reduceMul, Nat.reduceAdd, Nat.reduceDiv, Nat.reduceSub, Nat.reduceLT, Nat.reduceLeDiff, Int.reduceLE, Int.reduceLT, Int.reduceToNat, Int.reduceEq]) rfl rfl ?_
  simp only [go_sem, ↓reduceIte, Nat.reduceEqDiff, Nat.reduceMul, Nat.reduceAdd, Nat.reduceDiv, Nat.reduceSub, Nat.reduceLT, Nat.reduceLeDiff, Int.reduceLE, Int.reduceLT, Int.reduceToNat, Int.reduceEq]
  repeat (refine ⟨by (first | omega | (intro h1 h2; exact ⟨h1, h2⟩) | (intro h1; omega) | (intro h1; exact h1) | trivial), ?_⟩)
  generalize l.take 60 = m at *
  refine callK_3 _ _ _ (fun _ => (cw32 m hl' hw' ht').pubRes3 rfl) (by simp only [go_sem, ↓reduceIte, Nat.reduceEqDiff, Nat.reduceMul, Nat.reduceAdd, Nat.reduceDiv, Nat.reduceSub, Nat.reduceLT, Nat.reduceLeDiff, Int.reduceLE, Int.reduceLT, Int.reduceToNat, Int.reduceEq]) rfl rfl ?_
  simp only [go_sem, ↓reduceIte, Nat.reduceEqDiff, Nat.reduceMul, Nat.reduceAdd, Nat.reduceDiv, Nat.reduceSub, Nat.reduceLT, Nat.reduceLeDiff, Int.reduceLE, Int.reduceLT, Int.reduceToNat, Int.reduceEq]
  repeat (refine ⟨by (first | omega | (intro h1 h2; exact ⟨h1, h2⟩) | (intro h1; omega) | (intro h1; exact h1) | trivial), ?_⟩)
  have hlen := packF_len m
  refine ⟨fun he => ?_, fun he => ?_⟩
  · refine callK_1 _ (fun _ => cw34) (by simp only [go_sem, ↓reduceIte, Nat.reduceEqDiff, Nat.reduceMul, Nat.reduceAdd, Nat.reduceDiv, Nat.reduceSub, Nat.reduceLT, Nat.reduceLeDiff, Int.reduceLE, Int.reduceLT, Int.reduceToNat, Int.reduceEq]) rfl rfl ?_
    simp only [go_sem, ↓reduceIte, Nat.reduceEqDiff, Nat.reduceMul, Nat.reduceAdd, Nat.reduceDiv, Nat.reduceSub, Nat.reduceLT, Nat.reduceLeDiff, Int.reduceLE, Int.reduceLT, Int.reduceToNat, Int.reduceEq]
    repeat (refine ⟨by (first | omega | (intro h1 h2; exact ⟨h1, h2⟩) | (intro h1; omega) | (intro h1; exact h1) | trivial), ?_⟩)
    exact hQ _ _ rfl
  have he : (packF m).2.2 = 0 := by simpa using he
  obtain ⟨-, hpk⟩ := packF_ok hl' hw' he
  rw [hpk] at hlen ⊢
  have hhead := pack_head hlen
  have hten : 10 ≤ (packB m).length := (head_parts (by rw [hhead])).1.1
  have hsm : (packB m).length ≤ 8192 := pack_small (packF_right hl' he) hn'
  generalize packB m = b at *
  simp only at hlen
  refine ⟨fun h => by simp only at h; omega, fun _ => ?_⟩
  simp only
  have e8 : IntKind.i64.wrap (8 * (b.length : Int)) = ((8 * b.length : Nat) : Int) := by rw [wrap_i64]; omega
  obtain ⟨i0, -⟩ := and_pos i
  obtain ⟨j0, -⟩ := and_pos j
  obtain ⟨k0, -⟩ := and_pos k
  generalize bitI .and .i64 i 1099511627775 = i' at *
  generalize bitI .and .i64 j 1099511627775 = j' at *
  generalize bitI .and .i64 k 1099511627775 = k' at *
  rw [e8]
  have xn0 : 0 ≤ i'.tmod ((8 * b.length : Nat) : Int) := Int.tmod_nonneg _ i0
  have xn1 : i'.tmod ((8 * b.length : Nat) : Int) < ((8 * b.length : Nat) : Int) := Int.tmod_lt_of_pos _ (by omega)
  have yn0 : 0 ≤ j'.tmod ((8 * b.length : Nat) : Int) := Int.tmod_nonneg _ j0
  have yn1 : j'.tmod ((8 * b.length : Nat) : Int) < ((8 * b.length : Nat) : Int) := Int.tmod_lt_of_pos _ (by omega)
  have zn0 : 0 ≤ k'.tmod ((8 * b.length : Nat) : Int) := Int.tmod_nonneg _ k0
  have zn1 : k'.tmod ((8 * b.length : Nat) : Int) < ((8 * b.length : Nat) : Int) := Int.tmod_lt_of_pos _ (by omega)
  generalize i'.tmod ((8 * b.length : Nat) : Int) = x at *
  generalize j'.tmod ((8 * b.length : Nat) : Int) = y at *
  generalize k'.tmod ((8 * b.length : Nat) : Int) = z at *
  obtain ⟨x, rfl⟩ := Int.eq_ofNat_of_zero_le xn0
  obtain ⟨y, rfl⟩ := Int.eq_ofNat_of_zero_le yn0
  obtain ⟨z, rfl⟩ := Int.eq_ofNat_of_zero_le zn0
  refine ⟨by omega, by omega, by omega, by omega, by omega, ?_⟩
  have hc := three_bad (b := b) (by rw [hhead]) hsm (x := x) (y := y) (z := z) (by omega) (by omega) (by omega)
  refine callK_i ⟨[], [[.own 1 (bys (flipB b x))]]⟩ (fun _ => cw38 b x (by first | omega | (simp only [flipB_len]; omega)) (by first | omega | (simp only [flipB_len]; omega))) ⟨by simp only [go_sem, ↓reduceIte, Nat.reduceEqDiff, Nat.reduceMul, Nat.reduceAdd, Nat.reduceDiv, Nat.reduceSub, Nat.reduceLT, Nat.reduceLeDiff, Int.reduceLE, Int.reduceLT, Int.reduceToNat, Int.reduceEq], .inl rfl, ⟨by simp only [go_sem, ↓reduceIte, Nat.reduceEqDiff, Nat.reduceMul, Nat.reduceAdd, Nat.reduceDiv, Nat.reduceSub, Nat.reduceLT, Nat.reduceLeDiff, Int.reduceLE, Int.reduceLT, Int.reduceToNat, Int.reduceEq], by simp, by simp, by simp⟩, ?_⟩
  simp only [go_sem, ↓reduceIte, Nat.reduceEqDiff, Nat.reduceMul, Nat.reduceAdd, Nat.reduceDiv, Nat.reduceSub, Nat.reduceLT, Nat.reduceLeDiff, Int.reduceLE, Int.reduceLT, Int.reduceToNat, Int.reduceEq, flipB_len]
  refine ⟨fun hy => ?_, fun hy => ?_⟩
  · have hy : ¬y = x := by omega
    refine callK_i ⟨[], [[.own 1 (bys (flipB (flipB b x) y))]]⟩ (fun _ => cw38 (flipB b x) y (by first | omega | (simp only [flipB_len]; omega)) (by first | omega | (simp only [flipB_len]; omega))) ⟨by simp only [go_sem, ↓reduceIte, Nat.reduceEqDiff, Nat.reduceMul, Nat.reduceAdd, Nat.reduceDiv, Nat.reduceSub, Nat.reduceLT, Nat.reduceLeDiff, Int.reduceLE, Int.reduceLT, Int.reduceToNat, Int.reduceEq], .inl rfl, ⟨by simp only [go_sem, ↓reduceIte, Nat.reduceEqDiff, Nat.reduceMul, Nat.reduceAdd, Nat.reduceDiv, Nat.reduceSub, Nat.reduceLT, Nat.reduceLeDiff, Int.reduceLE, Int.reduceLT, Int.reduceToNat, Int.reduceEq], by simp, by simp, by simp⟩, ?_⟩
    simp only [go_sem, ↓reduceIte, Nat.reduceEqDiff, Nat.reduceMul, Nat.reduceAdd, Nat.reduceDiv, Nat.reduceSub, Nat.reduceLT, Nat.reduceLeDiff, Int.reduceLE, Int.reduceLT, Int.reduceToNat, Int.reduceEq, flipB_len]
    refine ⟨fun hz0 => ?_, fun hz0 => ?_⟩
    · have hz : ¬z = x ∧ ¬z = y := by omega
      refine callK_i ⟨[], [[.own 1 (bys (flipB (flipB (flipB b x) y) z))]]⟩ (fun _ => cw38 (flipB (flipB b x) y) z (by first | omega | (simp only [flipB_len]; omega)) (by first | omega | (simp only [flipB_len]; omega))) ⟨by simp only [go_sem, ↓reduceIte, Nat.reduceEqDiff, Nat.reduceMul, Nat.reduceAdd, Nat.reduceDiv, Nat.reduceSub, Nat.reduceLT, Nat.reduceLeDiff, Int.reduceLE, Int.reduceLT, Int.reduceToNat, Int.reduceEq], .inl rfl, ⟨by simp only [go_sem, ↓reduceIte, Nat.reduceEqDiff, Nat.reduceMul, Nat.reduceAdd, Nat.reduceDiv, Nat.reduceSub, Nat.reduceLT, Nat.reduceLeDiff, Int.reduceLE, Int.reduceLT, Int.reduceToNat, Int.reduceEq], by simp, by simp, by simp⟩, ?_⟩
      simp only [go_sem, ↓reduceIte, Nat.reduceEqDiff, Nat.reduceMul, Nat.reduceAdd, Nat.reduceDiv, Nat.reduceSub, Nat.reduceLT, Nat.reduceLeDiff, Int.reduceLE, Int.reduceLT, Int.reduceToNat, Int.reduceEq, flipB_len]
      rw [show three b x y z = flipB (flipB (flipB b x) y) z by unfold three; simp [hy, hz]] at hc
      have hcl : (flipB (flipB (flipB b x) y) z).length = b.length := by simp only [flipB_len]
      generalize flipB (flipB (flipB b x) y) z = c at *
      refine loopR.by (α := Nat) (fun q => [(4, .c (.int .u32 pat)), (11, .c (.sl 1 (bys b))), (14, .c (.int .i64 ((8 * b.length : Nat) : Int))), (15, .osl 1000015 0 c.length), (16, .osl 1000016 0 b.length), (19, .c (.int .i64 z)), (20, .c (.int .i64 q))]) (fun q => [(1000015, .row 1 (bys c)), (1000016, .row 1 (bys (burstB b z pat.toNat q)))]) (fun q => 32 - q) (fun q => q ≤ 32) 0 (Nat.zero_le _) ?_ ?_
      · intro Y hY
        simp only [go_sem, ↓reduceIte, Nat.reduceEqDiff, Nat.reduceMul, Nat.reduceAdd, Nat.reduceDiv, Nat.reduceSub, Nat.reduceLT, Nat.reduceLeDiff, Int.reduceLE, Int.reduceLT, Int.reduceToNat, Int.reduceEq, n12_0]
        exact ⟨⟨hcl.symm, by simp⟩, hY⟩
      intro q hq Y hY
      unfold l12_0
      have eq1 : IntKind.i64.wrap ((z : Int) + (q : Int)) = ((z + q : Nat) : Int) := by rw [wrap_i64]; omega
      have eq2 : IntKind.u64.wrap (q : Int) = (q : Int) := by rw [wrap_u64]; omega
      simp only [go_sem, ↓reduceIte, Nat.reduceEqDiff, Nat.reduceMul, Nat.reduceAdd, Nat.reduceDiv, Nat.reduceSub, Nat.reduceLT, Nat.reduceLeDiff, Int.reduceLE, Int.reduceLT, Int.reduceToNat, Int.reduceEq, n12_0, eq1, eq2]
      refine ⟨fun hA => ⟨by omega, fun hb1 => ⟨(burstB_len b z pat.toNat q).symm, ?_⟩, fun hb0 => ?_⟩, fun hA => ?_⟩
      · have hq32 : q < 32 := by omega
        rw [bit_test hp.1 hp.2 hq32] at hb1
        have et : pat.toNat.testBit q = true := by rw [Nat.testBit_eq_decide_div_mod_eq]; exact decide_eq_true (Int.ofNat_inj.1 hb1)
        have eb : burstB b z pat.toNat (q + 1) = flipB (burstB b z pat.toNat q) (z + q) := by rw [burstB, if_pos ⟨by omega, et⟩]
        refine callK_i ⟨[], [[.own 1 (bys (flipB (burstB b z pat.toNat q) (z + q)))]]⟩ (fun _ => cw38 (burstB b z pat.toNat q) (z + q) (by rw [burstB_len]; omega) (by rw [burstB_len]; omega)) ⟨by simp only [go_sem, ↓reduceIte, Nat.reduceEqDiff, Nat.reduceMul, Nat.reduceAdd, Nat.reduceDiv, Nat.reduceSub, Nat.reduceLT, Nat.reduceLeDiff, Int.reduceLE, Int.reduceLT, Int.reduceToNat, Int.reduceEq], .inl rfl, ⟨by simp only [go_sem, ↓reduceIte, Nat.reduceEqDiff, Nat.reduceMul, Nat.reduceAdd, Nat.reduceDiv, Nat.reduceSub, Nat.reduceLT, Nat.reduceLeDiff, Int.reduceLE, Int.reduceLT, Int.reduceToNat, Int.reduceEq], by simp, by simp, by simp⟩, ?_⟩
        simp only [go_sem, ↓reduceIte, Nat.reduceEqDiff, Nat.reduceMul, Nat.reduceAdd, Nat.reduceDiv, Nat.reduceSub, Nat.reduceLT, Nat.reduceLeDiff, Int.reduceLE, Int.reduceLT, Int.reduceToNat, Int.reduceEq, n12_0, flipB_len, burstB_len]
        rw [succ64 hq32 (by omega), ← eb]
        have := hY (q + 1) (by omega) (by omega)
        exact ⟨by simp, this⟩
      · have hq32 : q < 32 := by omega
        rw [bit_test hp.1 hp.2 hq32] at hb0
        have et : ¬pat.toNat.testBit q = true := by rw [Nat.testBit_eq_decide_div_mod_eq, decide_eq_true_iff]; exact fun h => hb0 (by rw [h]; rfl)
        have eb : burstB b z pat.toNat (q + 1) = burstB b z pat.toNat q := by rw [burstB, if_neg (fun h => et h.2)]
        rw [succ64 hq32 (by omega), ← eb]
        have := hY (q + 1) (by omega) (by omega)
        rw [burstB_len b z pat.toNat (q + 1)]
        exact ⟨⟨rfl, by simp⟩, this⟩
      · have hst : burstB b z pat.toNat q = burstB b z pat.toNat 32 := burst_stop hq (by omega)
        rw [hst]
        have hd := burst_bad (b := b) (by rw [hhead]) z pat.toNat
        have hdl := burstB_len b z pat.toNat 32
        generalize burstB b z pat.toNat 32 = d at *
        rw [bys_take c]
        refine callK_3 _ _ _ (fun _ => (cw37 c (by omega)).pubRes3 rfl) (by simp only [go_sem, ↓reduceIte, Nat.reduceEqDiff, Nat.reduceMul, Nat.reduceAdd, Nat.reduceDiv, Nat.reduceSub, Nat.reduceLT, Nat.reduceLeDiff, Int.reduceLE, Int.reduceLT, Int.reduceToNat, Int.reduceEq]) rfl rfl ?_
        simp only [go_sem, ↓reduceIte, Nat.reduceEqDiff, Nat.reduceMul, Nat.reduceAdd, Nat.reduceDiv, Nat.reduceSub, Nat.reduceLT, Nat.reduceLeDiff, Int.reduceLE, Int.reduceLT, Int.reduceToNat, Int.reduceEq]
        repeat (refine ⟨by (first | omega | (intro h1 h2; exact ⟨h1, h2⟩) | (intro h1; omega) | (intro h1; exact h1) | trivial), ?_⟩)
        rw [show List.take b.length (bys d) = bys d by rw [← hdl]; exact bys_take d]
        refine callK_3 _ _ _ (fun _ => (cw37 d (by omega)).pubRes3 rfl) (by simp only [go_sem, ↓reduceIte, Nat.reduceEqDiff, Nat.reduceMul, Nat.reduceAdd, Nat.reduceDiv, Nat.reduceSub, Nat.reduceLT, Nat.reduceLeDiff, Int.reduceLE, Int.reduceLT, Int.reduceToNat, Int.reduceEq]) rfl rfl ?_
        simp only [go_sem, ↓reduceIte, Nat.reduceEqDiff, Nat.reduceMul, Nat.reduceAdd, Nat.reduceDiv, Nat.reduceSub, Nat.reduceLT, Nat.reduceLeDiff, Int.reduceLE, Int.reduceLT, Int.reduceToNat, Int.reduceEq]
        repeat (refine ⟨by (first | omega | (intro h1 h2; exact ⟨h1, h2⟩) | (intro h1; omega) | (intro h1; exact h1) | trivial), ?_⟩)
        refine callK_1 _ (fun _ => cw34) (by simp only [go_sem, ↓reduceIte, Nat.reduceEqDiff, Nat.reduceMul, Nat.reduceAdd, Nat.reduceDiv, Nat.reduceSub, Nat.reduceLT, Nat.reduceLeDiff, Int.reduceLE, Int.reduceLT, Int.reduceToNat, Int.reduceEq]) rfl rfl ?_
        simp only [go_sem, ↓reduceIte, Nat.reduceEqDiff, Nat.reduceMul, Nat.reduceAdd, Nat.reduceDiv, Nat.reduceSub, Nat.reduceLT, Nat.reduceLeDiff, Int.reduceLE, Int.reduceLT, Int.reduceToNat, Int.reduceEq]
        repeat (refine ⟨by (first | omega | (intro h1 h2; exact ⟨h1, h2⟩) | (intro h1; omega) | (intro h1; exact h1) | trivial), ?_⟩)
        rw [show List.take b.length (bys d) = bys d by rw [← hdl]; exact bys_take d, mkStr_bys, strOf_list]
        refine ⟨bys_isU8 _, bys_isU8 _, fun h1 h2 => ⟨h1, h2⟩, hQ _ _ ?_⟩
        rcases hd with hd | hd <;> simp [Slots.get, hc, hd]
    · have hz : ¬(¬z = x ∧ ¬z = y) := by omega
      rw [show three b x y z = flipB (flipB b x) y by unfold three; rw [if_neg (by simpa using hz), if_pos hy]] at hc
      have hcl : (flipB (flipB b x) y).length = b.length := by simp only [flipB_len]
      generalize flipB (flipB b x) y = c at *
      refine loopR.by (α := Nat) (fun q => [(4, .c (.int .u32 pat)), (11, .c (.sl 1 (bys b))), (14, .c (.int .i64 ((8 * b.length : Nat) : Int))), (15, .osl 1000015 0 c.length), (16, .osl 1000016 0 b.length), (19, .c (.int .i64 z)), (20, .c (.int .i64 q))]) (fun q => [(1000015, .row 1 (bys c)), (1000016, .row 1 (bys (burstB b z pat.toNat q)))]) (fun q => 32 - q) (fun q => q ≤ 32) 0 (Nat.zero_le _) ?_ ?_
      · intro Y hY
        simp only [go_sem, ↓reduceIte, Nat.reduceEqDiff, Nat.reduceMul, Nat.reduceAdd, Nat.reduceDiv, Nat.reduceSub, Nat.reduceLT, Nat.reduceLeDiff, Int.reduceLE, Int.reduceLT, Int.reduceToNat, Int.reduceEq, n12_0]
        exact ⟨⟨hcl.symm, by simp⟩, hY⟩
      intro q hq Y hY
      unfold l12_0
      have eq1 : IntKind.i64.wrap ((z : Int) + (q : Int)) = ((z + q : Nat) : Int) := by rw [wrap_i64]; omega
      have eq2 : IntKind.u64.wrap (q : Int) = (q : Int) := by rw [wrap_u64]; omega
      simp only [go_sem, ↓reduceIte, Nat.reduceEqDiff, Nat.reduceMul, Nat.reduceAdd, Nat.reduceDiv, Nat.reduceSub, Nat.reduceLT, Nat.reduceLeDiff, Int.reduceLE, Int.reduceLT, Int.reduceToNat, Int.reduceEq, n12_0, eq1, eq2]
      refine ⟨fun hA => ⟨by omega, fun hb1 => ⟨(burstB_len b z pat.toNat q).symm, ?_⟩, fun hb0 => ?_⟩, fun hA => ?_⟩
      · have hq32 : q < 32 := by omega
        rw [bit_test hp.1 hp.2 hq32] at hb1
        have et : pat.toNat.testBit q = true := by rw [Nat.testBit_eq_decide_div_mod_eq]; exact decide_eq_true (Int.ofNat_inj.1 hb1)
        have eb : burstB b z pat.toNat (q + 1) = flipB (burstB b z pat.toNat q) (z + q) := by rw [burstB, if_pos ⟨by omega, et⟩]
        refine callK_i ⟨[], [[.own 1 (bys (flipB (burstB b z pat.toNat q) (z + q)))]]⟩ (fun _ => cw38 (burstB b z pat.toNat q) (z + q) (by rw [burstB_len]; omega) (by rw [burstB_len]; omega)) ⟨by simp only [go_sem, ↓reduceIte, Nat.reduceEqDiff, Nat.reduceMul, Nat.reduceAdd, Nat.reduceDiv, Nat.reduceSub, Nat.reduceLT, Nat.reduceLeDiff, Int.reduceLE, Int.reduceLT, Int.reduceToNat, Int.reduceEq], .inl rfl, ⟨by simp only [go_sem, ↓reduceIte, Nat.reduceEqDiff, Nat.reduceMul, Nat.reduceAdd, Nat.reduceDiv, Nat.reduceSub, Nat.reduceLT, Nat.reduceLeDiff, Int.reduceLE, Int.reduceLT, Int.reduceToNat, Int.reduceEq], by simp, by simp, by simp⟩, ?_⟩
        simp only [go_sem, ↓reduceIte, Nat.reduceEqDiff, Nat.reduceMul, Nat.reduceAdd, Nat.reduceDiv, Nat.reduceSub, Nat.reduceLT, Nat.reduceLeDiff, Int.reduceLE, Int.reduceLT, Int.reduceToNat, Int.reduceEq, n12_0, flipB_len, burstB_len]
        rw [succ64 hq32 (by omega), ← eb]
        have := hY (q + 1) (by omega) (by omega)
        exact ⟨by simp, this⟩
      · have hq32 : q < 32 := by omega
        rw [bit_test hp.1 hp.2 hq32] at hb0
        have et : ¬pat.toNat.testBit q = true := by rw [Nat.testBit_eq_decide_div_mod_eq, decide_eq_true_iff]; exact fun h => hb0 (by rw [h]; rfl)
        have eb : burstB b z pat.toNat (q + 1) = burstB b z pat.toNat q := by rw [burstB, if_neg (fun h => et h.2)]
        rw [succ64 hq32 (by omega), ← eb]
        have := hY (q + 1) (by omega) (by omega)
        rw [burstB_len b z pat.toNat (q + 1)]
        exact ⟨⟨rfl, by simp⟩, this⟩
      · have hst : burstB b z pat.toNat q = burstB b z pat.toNat 32 := burst_stop hq (by omega)
        rw [hst]
        have hd := burst_bad (b := b) (by rw [hhead]) z pat.toNat
        have hdl := burstB_len b z pat.toNat 32
        generalize burstB b z pat.toNat 32 = d at *
        rw [bys_take c]
        refine callK_3 _ _ _ (fun _ => (cw37 c (by omega)).pubRes3 rfl) (by simp only [go_sem, ↓reduceIte, Nat.reduceEqDiff, Nat.reduceMul, Nat.reduceAdd, Nat.reduceDiv, Nat.reduceSub, Nat.reduceLT, Nat.reduceLeDiff, Int.reduceLE, Int.reduceLT, Int.reduceToNat, Int.reduceEq]) rfl rfl ?_
        simp only [go_sem, ↓reduceIte, Nat.reduceEqDiff, Nat.reduceMul, Nat.reduceAdd, Nat.reduceDiv, Nat.reduceSub, Nat.reduceLT, Nat.reduceLeDiff, Int.reduceLE, Int.reduceLT, Int.reduceToNat, Int.reduceEq]
        repeat (refine ⟨by (first | omega | (intro h1 h2; exact ⟨h1, h2⟩) | (intro h1; omega) | (intro h1; exact h1) | trivial), ?_⟩)
        rw [show List.take b.length (bys d) = bys d by rw [← hdl]; exact bys_take d]
        refine callK_3 _ _ _ (fun _ => (cw37 d (by omega)).pubRes3 rfl) (by simp only [go_sem, ↓reduceIte, Nat.reduceEqDiff, Nat.reduceMul, Nat.reduceAdd, Nat.reduceDiv, Nat.reduceSub, Nat.reduceLT, Nat.reduceLeDiff, Int.reduceLE, Int.reduceLT, Int.reduceToNat, Int.reduceEq]) rfl rfl ?_
        simp only [go_sem, ↓reduceIte, Nat.reduceEqDiff, Nat.reduceMul, Nat.reduceAdd, Nat.reduceDiv, Nat.reduceSub, Nat.reduceLT, Nat.reduceLeDiff, Int.reduceLE, Int.reduceLT, Int.reduceToNat, Int.reduceEq]
        repeat (refine ⟨by (first | omega | (intro h1 h2; exact ⟨h1, h2⟩) | (intro h1; omega) | (intro h1; exact h1) | trivial), ?_⟩)
        refine callK_1 _ (fun _ => cw34) (by simp only [go_sem, ↓reduceIte, Nat.reduceEqDiff, Nat.reduceMul, Nat.reduceAdd, Nat.reduceDiv, Nat.reduceSub, Nat.reduceLT, Nat.reduceLeDiff, Int.reduceLE, Int.reduceLT, Int.reduceToNat, Int.reduceEq]) rfl rfl ?_
        simp only [go_sem, ↓reduceIte, Nat.reduceEqDiff, Nat.reduceMul, Nat.reduceAdd, Nat.reduceDiv, Nat.reduceSub, Nat.reduceLT, Nat.reduceLeDiff, Int.reduceLE, Int.reduceLT, Int.reduceToNat, Int.reduceEq]
        repeat (refine ⟨by (first | omega | (intro h1 h2; exact ⟨h1, h2⟩) | (intro h1; omega) | (intro h1; exact h1) | trivial), ?_⟩)
        rw [show List.take b.length (bys d) = bys d by rw [← hdl]; exact bys_take d, mkStr_bys, strOf_list]
        refine ⟨bys_isU8 _, bys_isU8 _, fun h1 h2 => ⟨h1, h2⟩, hQ _ _ ?_⟩
        rcases hd with hd | hd <;> simp [Slots.get, hc, hd]
  · have hy : y = x := by omega
    subst hy
    simp only [go_sem, ↓reduceIte, Nat.reduceEqDiff, Nat.reduceMul, Nat.reduceAdd, Nat.reduceDiv, Nat.reduceSub, Nat.reduceLT, Nat.reduceLeDiff, Int.reduceLE, Int.reduceLT, Int.reduceToNat, Int.reduceEq]
    refine ⟨fun hz0 => ?_, fun hz0 => ?_⟩
    · have hz : ¬z = y := by omega
      refine callK_i ⟨[], [[.own 1 (bys (flipB (flipB b y) z))]]⟩ (fun _ => cw38 (flipB b y) z (by first | omega | (simp only [flipB_len]; omega)) (by first | omega | (simp only [flipB_len]; omega))) ⟨by simp only [go_sem, ↓reduceIte, Nat.reduceEqDiff, Nat.reduceMul, Nat.reduceAdd, Nat.reduceDiv, Nat.reduceSub, Nat.reduceLT, Nat.reduceLeDiff, Int.reduceLE, Int.reduceLT, Int.reduceToNat, Int.reduceEq], .inl rfl, ⟨by simp only [go_sem, ↓reduceIte, Nat.reduceEqDiff, Nat.reduceMul, Nat.reduceAdd, Nat.reduceDiv, Nat.reduceSub, Nat.reduceLT, Nat.reduceLeDiff, Int.reduceLE, Int.reduceLT, Int.reduceToNat, Int.reduceEq], by simp, by simp, by simp⟩, ?_⟩
      simp only [go_sem, ↓reduceIte, Nat.reduceEqDiff, Nat.reduceMul, Nat.reduceAdd, Nat.reduceDiv, Nat.reduceSub, Nat.reduceLT, Nat.reduceLeDiff, Int.reduceLE, Int.reduceLT, Int.reduceToNat, Int.reduceEq, flipB_len]
      rw [show three b y y z = flipB (flipB b y) z by unfold three; simp [hz]] at hc
      have hcl : (flipB (flipB b y) z).length = b.length := by simp only [flipB_len]
      generalize flipB (flipB b y) z = c at *
      refine loopR.by (α := Nat) (fun q => [(4, .c (.int .u32 pat)), (11, .c (.sl 1 (bys b))), (14, .c (.int .i64 ((8 * b.length : Nat) : Int))), (15, .osl 1000015 0 c.length), (16, .osl 1000016 0 b.length), (19, .c (.int .i64 z)), (20, .c (.int .i64 q))]) (fun q => [(1000015, .row 1 (bys c)), (1000016, .row 1 (bys (burstB b z pat.toNat q)))]) (fun q => 32 - q) (fun q => q ≤ 32) 0 (Nat.zero_le _) ?_ ?_
      · intro Y hY
        simp only [go_sem, ↓reduceIte, Nat.reduceEqDiff, Nat.reduceMul, Nat.reduceAdd, Nat.reduceDiv, Nat.reduceSub, Nat.reduceLT, Nat.reduceLeDiff, Int.reduceLE, Int.reduceLT, Int.reduceToNat, Int.reduceEq, n12_0]
        exact ⟨⟨hcl.symm, by simp⟩, hY⟩
      intro q hq Y hY
      unfold l12_0
      have eq1 : IntKind.i64.wrap ((z : Int) + (q : Int)) = ((z + q : Nat) : Int) := by rw [wrap_i64]; omega
      have eq2 : IntKind.u64.wrap (q : Int) = (q : Int) := by rw [wrap_u64]; omega
      simp only [go_sem, ↓reduceIte, Nat.reduceEqDiff, Nat.reduceMul, Nat.reduceAdd, Nat.reduceDiv, Nat.reduceSub, Nat.reduceLT, Nat.reduceLeDiff, Int.reduceLE, Int.reduceLT, Int.reduceToNat, Int.reduceEq, n12_0, eq1, eq2]
      refine ⟨fun hA => ⟨by omega, fun hb1 => ⟨(burstB_len b z pat.toNat q).symm, ?_⟩, fun hb0 => ?_⟩, fun hA => ?_⟩
      · have hq32 : q < 32 := by omega
        rw [bit_test hp.1 hp.2 hq32] at hb1
        have et : pat.toNat.testBit q = true := by rw [Nat.testBit_eq_decide_div_mod_eq]; exact decide_eq_true (Int.ofNat_inj.1 hb1)
        have eb : burstB b z pat.toNat (q + 1) = flipB (burstB b z pat.toNat q) (z + q) := by rw [burstB, if_pos ⟨by omega, et⟩]
        refine callK_i ⟨[], [[.own 1 (bys (flipB (burstB b z pat.toNat q) (z + q)))]]⟩ (fun _ => cw38 (burstB b z pat.toNat q) (z + q) (by rw [burstB_len]; omega) (by rw [burstB_len]; omega)) ⟨by simp only [go_sem, ↓reduceIte, Nat.reduceEqDiff, Nat.reduceMul, Nat.reduceAdd, Nat.reduceDiv, Nat.reduceSub, Nat.reduceLT, Nat.reduceLeDiff, Int.reduceLE, Int.reduceLT, Int.reduceToNat, Int.reduceEq], .inl rfl, ⟨by simp only [go_sem, ↓reduceIte, Nat.reduceEqDiff, Nat.reduceMul, Nat.reduceAdd, Nat.reduceDiv, Nat.reduceSub, Nat.reduceLT, Nat.reduceLeDiff, Int.reduceLE, Int.reduceLT, Int.reduceToNat, Int.reduceEq], by simp, by simp, by simp⟩, ?_⟩
        simp only [go_sem, ↓reduceIte, Nat.reduceEqDiff, Nat.reduceMul, Nat.reduceAdd, Nat.reduceDiv, Nat.reduceSub, Nat.reduceLT, Nat.reduceLeDiff, Int.reduceLE, Int.reduceLT, Int.reduceToNat, Int.reduceEq, n12_0, flipB_len, burstB_len]
        rw [succ64 hq32 (by omega), ← eb]
        have := hY (q + 1) (by omega) (by omega)
        exact ⟨by simp, this⟩
      · have hq32 : q < 32 := by omega
        rw [bit_test hp.1 hp.2 hq32] at hb0
        have et : ¬pat.toNat.testBit q = true := by rw [Nat.testBit_eq_decide_div_mod_eq, decide_eq_true_iff]; exact fun h => hb0 (by rw [h]; rfl)
        have eb : burstB b z pat.toNat (q + 1) = burstB b z pat.toNat q := by rw [burstB, if_neg (fun h => et h.2)]
        rw [succ64 hq32 (by omega), ← eb]
        have := hY (q + 1) (by omega) (by omega)
        rw [burstB_len b z pat.toNat (q + 1)]
        exact ⟨⟨rfl, by simp⟩, this⟩
      · have hst : burstB b z pat.toNat q = burstB b z pat.toNat 32 := burst_stop hq (by omega)
        rw [hst]
        have hd := burst_bad (b := b) (by rw [hhead]) z pat.toNat
        have hdl := burstB_len b z pat.toNat 32
        generalize burstB b z pat.toNat 32 = d at *
        rw [bys_take c]
        refine callK_3 _ _ _ (fun _ => (cw37 c (by omega)).pubRes3 rfl) (by simp only [go_sem, ↓reduceIte, Nat.reduceEqDiff, Nat.reduceMul, Nat.reduceAdd, Nat.reduceDiv, Nat.reduceSub, Nat.reduceLT, Nat.reduceLeDiff, Int.reduceLE, Int.reduceLT, Int.reduceToNat, Int.reduceEq]) rfl rfl ?_
        simp only [go_sem, ↓reduceIte, Nat.reduceEqDiff, Nat.reduceMul, Nat.reduceAdd, Nat.reduceDiv, Nat.reduceSub, Nat.reduceLT, Nat.reduceLeDiff, Int.reduceLE, Int.reduceLT, Int.reduceToNat, Int.reduceEq]
        repeat (refine ⟨by (first | omega | (intro h1 h2; exact ⟨h1, h2⟩) | (intro h1; omega) | (intro h1; exact h1) | trivial), ?_⟩)
        rw [show List.take b.length (bys d) = bys d by rw [← hdl]; exact bys_take d]
        refine callK_3 _ _ _ (fun _ => (cw37 d (by omega)).pubRes3 rfl) (by simp only [go_sem, ↓reduceIte, Nat.reduceEqDiff, Nat.reduceMul, Nat.reduceAdd, Nat.reduceDiv, Nat.reduceSub, Nat.reduceLT, Nat.reduceLeDiff, Int.reduceLE, Int.reduceLT, Int.reduceToNat, Int.reduceEq]) rfl rfl ?_
        simp only [go_sem, ↓reduceIte, Nat.reduceEqDiff, Nat.reduceMul, Nat.reduceAdd, Nat.reduceDiv, Nat.reduceSub, Nat.reduceLT, Nat.reduceLeDiff, Int.reduceLE, Int.reduceLT, Int.reduceToNat, Int.reduceEq]
        repeat (refine ⟨by (first | omega | (intro h1 h2; exact ⟨h1, h2⟩) | (intro h1; omega) | (intro h1; exact h1) | trivial), ?_⟩)
        refine callK_1 _ (fun _ => cw34) (by simp only [go_sem, ↓reduceIte, Nat.reduceEqDiff, Nat.reduceMul, Nat.reduceAdd, Nat.reduceDiv, Nat.reduceSub, Nat.reduceLT, Nat.reduceLeDiff, Int.reduceLE, Int.reduceLT, Int.reduceToNat, Int.reduceEq]) rfl rfl ?_
        simp only [go_sem, ↓reduceIte, Nat.reduceEqDiff, Nat.reduceMul, Nat.reduceAdd, Nat.reduceDiv, Nat.reduceSub, Nat.reduceLT, Nat.reduceLeDiff, Int.reduceLE, Int.reduceLT, Int.reduceToNat, Int.reduceEq]
        repeat (refine ⟨by (first | omega | (intro h1 h2; exact ⟨h1, h2⟩) | (intro h1; omega) | (intro h1; exact h1) | trivial), ?_⟩)
        rw [show List.take b.length (bys d) = bys d by rw [← hdl]; exact bys_take d, mkStr_bys, strOf_list]
        refine ⟨bys_isU8 _, bys_isU8 _, fun h1 h2 => ⟨h1, h2⟩, hQ _ _ ?_⟩
        rcases hd with hd | hd <;> simp [Slots.get, hc, hd]
    · have hz : z = y := by omega
      rw [show three b y y z = flipB b y by unfold three; simp [hz]] at hc
      have hcl : (flipB b y).length = b.length := by simp only [flipB_len]
      generalize flipB b y = c at *
      refine loopR.by (α := Nat) (fun q => [(4, .c (.int .u32 pat)), (11, .c (.sl 1 (bys b))), (14, .c (.int .i64 ((8 * b.length : Nat) : Int))), (15, .osl 1000015 0 c.length), (16, .osl 1000016 0 b.length), (19, .c (.int .i64 z)), (20, .c (.int .i64 q))]) (fun q => [(1000015, .row 1 (bys c)), (1000016, .row 1 (bys (burstB b z pat.toNat q)))]) (fun q => 32 - q) (fun q => q ≤ 32) 0 (Nat.zero_le _) ?_ ?_
      · intro Y hY
        simp only [go_sem, ↓reduceIte, Nat.reduceEqDiff, Nat.reduceMul, Nat.reduceAdd, Nat.reduceDiv, Nat.reduceSub, Nat.reduceLT, Nat.reduceLeDiff, Int.reduceLE, Int.reduceLT, Int.reduceToNat, Int.reduceEq, n12_0]
        exact ⟨⟨hcl.symm, by simp⟩, hY⟩
      intro q hq Y hY
      unfold l12_0
      have eq1 : IntKind.i64.wrap ((z : Int) + (q : Int)) = ((z + q : Nat) : Int) := by rw [wrap_i64]; omega
      have eq2 : IntKind.u64.wrap (q : Int) = (q : Int) := by rw [wrap_u64]; omega
      simp only [go_sem, ↓reduceIte, Nat.reduceEqDiff, Nat.reduceMul, Nat.reduceAdd, Nat.reduceDiv, Nat.reduceSub, Nat.reduceLT, Nat.reduceLeDiff, Int.reduceLE, Int.reduceLT, Int.reduceToNat, Int.reduceEq, n12_0, eq1, eq2]
      refine ⟨fun hA => ⟨by omega, fun hb1 => ⟨(burstB_len b z pat.toNat q).symm, ?_⟩, fun hb0 => ?_⟩, fun hA => ?_⟩
      · have hq32 : q < 32 := by omega
        rw [bit_test hp.1 hp.2 hq32] at hb1
        have et : pat.toNat.testBit q = true := by rw [Nat.testBit_eq_decide_div_mod_eq]; exact decide_eq_true (Int.ofNat_inj.1 hb1)
        have eb : burstB b z pat.toNat (q + 1) = flipB (burstB b z pat.toNat q) (z + q) := by rw [burstB, if_pos ⟨by omega, et⟩]
        refine callK_i ⟨[], [[.own 1 (bys (flipB (burstB b z pat.toNat q) (z + q)))]]⟩ (fun _ => cw38 (burstB b z pat.toNat q) (z + q) (by rw [burstB_len]; omega) (by rw [burstB_len]; omega)) ⟨by simp only [go_sem, ↓reduceIte, Nat.reduceEqDiff, Nat.reduceMul, Nat.reduceAdd, Nat.reduceDiv, Nat.reduceSub, Nat.reduceLT, Nat.reduceLeDiff, Int.reduceLE, Int.reduceLT, Int.reduceToNat, Int.reduceEq], .inl rfl, ⟨by simp only [go_sem, ↓reduceIte, Nat.reduceEqDiff, Nat.reduceMul, Nat.reduceAdd, Nat.reduceDiv, Nat.reduceSub, Nat.reduceLT, Nat.reduceLeDiff, Int.reduceLE, Int.reduceLT, Int.reduceToNat, Int.reduceEq], by simp, by simp, by simp⟩, ?_⟩
        simp only [go_sem, ↓reduceIte, Nat.reduceEqDiff, Nat.reduceMul, Nat.reduceAdd, Nat.reduceDiv, Nat.reduceSub, Nat.reduceLT, Nat.reduceLeDiff, Int.reduceLE, Int.reduceLT, Int.reduceToNat, Int.reduceEq, n12_0, flipB_len, burstB_len]
        rw [succ64 hq32 (by omega), ← eb]
        have := hY (q + 1) (by omega) (by omega)
        exact ⟨by simp, this⟩
      · have hq32 : q < 32 := by omega
        rw [bit_test hp.1 hp.2 hq32] at hb0
        have et : ¬pat.toNat.testBit q = true := by rw [Nat.testBit_eq_decide_div_mod_eq, decide_eq_true_iff]; exact fun h => hb0 (by rw [h]; rfl)
        have eb : burstB b z pat.toNat (q + 1) = burstB b z pat.toNat q := by rw [burstB, if_neg (fun h => et h.2)]
        rw [succ64 hq32 (by omega), ← eb]
        have := hY (q + 1) (by omega) (by omega)
        rw [burstB_len b z pat.toNat (q + 1)]
        exact ⟨⟨rfl, by simp⟩, this⟩
      · have hst : burstB b z pat.toNat q = burstB b z pat.toNat 32 := burst_stop hq (by omega)
        rw [hst]
        have hd := burst_bad (b := b) (by rw [hhead]) z pat.toNat
        have hdl := burstB_len b z pat.toNat 32
        generalize burstB b z pat.toNat 32 = d at *
        rw [bys_take c]
        refine callK_3 _ _ _ (fun _ => (cw37 c (by omega)).pubRes3 rfl) (by simp only [go_sem, ↓reduceIte, Nat.reduceEqDiff, Nat.reduceMul, Nat.reduceAdd, Nat.reduceDiv, Nat.reduceSub, Nat.reduceLT, Nat.reduceLeDiff, Int.reduceLE, Int.reduceLT, Int.reduceToNat, Int.reduceEq]) rfl rfl ?_
        simp only [go_sem, ↓reduceIte, Nat.reduceEqDiff, Nat.reduceMul, Nat.reduceAdd, Nat.reduceDiv, Nat.reduceSub, Nat.reduceLT, Nat.reduceLeDiff, Int.reduceLE, Int.reduceLT, Int.reduceToNat, Int.reduceEq]
        repeat (refine ⟨by (first | omega | (intro h1 h2; exact ⟨h1, h2⟩) | (intro h1; omega) | (intro h1; exact h1) | trivial), ?_⟩)
        rw [show List.take b.length (bys d) = bys d by rw [← hdl]; exact bys_take d]
        refine callK_3 _ _ _ (fun _ => (cw37 d (by omega)).pubRes3 rfl) (by simp only [go_sem, ↓reduceIte, Nat.reduceEqDiff, Nat.reduceMul, Nat.reduceAdd, Nat.reduceDiv, Nat.reduceSub, Nat.reduceLT, Nat.reduceLeDiff, Int.reduceLE, Int.reduceLT, Int.reduceToNat, Int.reduceEq]) rfl rfl ?_
        simp only [go_sem, ↓reduceIte, Nat.reduceEqDiff, Nat.reduceMul, Nat.reduceAdd, Nat.reduceDiv, Nat.reduceSub, Nat.reduceLT, Nat.reduceLeDiff, Int.reduceLE, Int.reduceLT, Int.reduceToNat, Int.reduceEq]
        repeat (refine ⟨by (first | omega | (intro h1 h2; exact ⟨h1, h2⟩) | (intro h1; omega) | (intro h1; exact h1) | trivial), ?_⟩)
        refine callK_1 _ (fun _ => cw34) (by simp only [go_sem, ↓reduceIte, Nat.reduceEqDiff, Nat.reduceMul, Nat.reduceAdd, Nat.reduceDiv, Nat.reduceSub, Nat.reduceLT, Nat.reduceLeDiff, Int.reduceLE, Int.reduceLT, Int.reduceToNat, Int.reduceEq]) rfl rfl ?_
        simp only [go_sem, ↓reduceIte, Nat.reduceEqDiff, Nat.reduceMul, Nat.reduceAdd, Nat.reduceDiv, Nat.reduceSub, Nat.reduceLT, Nat.reduceLeDiff, Int.reduceLE, Int.reduceLT, Int.reduceToNat, Int.reduceEq]
        repeat (refine ⟨by (first | omega | (intro h1 h2; exact ⟨h1, h2⟩) | (intro h1; omega) | (intro h1; exact h1) | trivial), ?_⟩)
        rw [show List.take b.length (bys d) = bys d by rw [← hdl]; exact bys_take d, mkStr_bys, strOf_list]
        refine ⟨bys_isU8 _, bys_isU8 _, fun h1 h2 => ⟨h1, h2⟩, hQ _ _ ?_⟩
        rcases hd with hd | hd <;> simp [Slots.get, hc, hd]
theorem cw12 (l : List Rec) (i j k pat : Int) (hl : ∀ r ∈ l, r.ok) (hwt : ∀ r ∈ l, r.wok) (hto : ∀ r ∈ l, r.to.length ≤ 35184372088832) (hn : l.length < 9223372036854775808) (hp : 0 ≤ pat ∧ pat < 4294967296) : CW Try.prog 12 [.cv (.sl 8 (recs l)), .cv (.int .i64 i), .cv (.int .i64 j), .cv (.int .i64 k), .cv (.int .u32 pat)] ⟨[.cv (.bool true)], []⟩ :=
  top12 rfl rfl [] trivial (w12 l i j k pat hl hwt hto hn hp _ fun σ H h => ret1 rfl h)
end Go.Proofs.Ytcpdnpaedkcebaa.V
namespace Go.Proofs.Ytcpdnpaedkcebaa.V
open Go Go.RowKit
set_option linter.unusedVariables false
set_option linter.unusedSimpArgs false
set_option maxRecDepth 100000
section
variable {C : Ctx} {ι ι' : Nat → Loc} {S S' : Nat → Prop} {σ σ' : Slots} {H H' : LH} {a a' : Act} {w w' : World}
end
def e0 : IC := (.reg [⟨(some 0), 0, none, .mv (.c .nilsl)⟩])
def e1 : IC := .ret
def z1 (f : Func) : Array Oper := opsOf (seqA (seqB (codeOf f)))
end Go.Proofs.Ytcpdnpaedkcebaa.V
namespace Go.Proofs.Ytcpdnpaedkcebaa.V
open Go Go.RowKit
set_option linter.unusedVariables false
set_option linter.unusedSimpArgs false
set_option maxRecDepth 100000
def All (w : World) (b : Nat) : Prop := b < w.heap.size
def DownV (P : Program) (t : TypeId) (n : Nat) {α : Type} (f : α → CV) (Q : α → Prop) : Prop :=
  (∀ a, (f a).wf n) ∧ ∀ {H : Type} {enc : TypeId × Value → H} {w : World} {base : Nat} {spare : Nat → Bool} {held : Bool} {fuel : Nat} {cs : List Value} {x : DataW H × List MemPlace},
    DataW.trod enc P w base spare held fuel t cs = some x → ∃ a, cs.length = n ∧ (∀ j, j < n → VR w (All w) ((f a).cells.getD j .undef) (cs.getD j Go.undef)) ∧ ((∀ n ∈ x.1.weights P t, n ≤ reachBytes) → Q a)
theorem dv_int {P : Program} {t : TypeId} {k : IntKind} (ht : P.underlying t = some (.int k)) : DownV P t 1 (fun a : Int => CV.int k a) (fun a => (Lit.int k a).wf = true) := by
  refine ⟨fun a => ⟨rfl, by simp [CV.cells, CV.one]⟩, ?_⟩
  intro H enc w base spare held fuel cs x h
  obtain ⟨n, rfl, rfl, hw⟩ := DataW.trod_int ht h
  refine ⟨n, rfl, fun j hj => ?_, fun _ => hw⟩
  have : j = 0 := by omega
  subst this
  exact .int _ _
theorem dv_str {P : Program} {t : TypeId} (ht : P.underlying t = some .string) : DownV P t 1 (fun a : ByteArray => CV.str a) (fun _ => True) := by
  refine ⟨fun a => ⟨rfl, by simp [CV.cells, CV.one]⟩, ?_⟩
  intro H enc w base spare held fuel cs x h
  obtain ⟨s, rfl, rfl, hs⟩ := DataW.trod_string ht h
  refine ⟨s, rfl, fun j hj => ?_, fun _ => trivial⟩
  have : j = 0 := by omega
  subst this
  exact .str _
theorem dv_flt {P : Program} {t : TypeId} (ht : P.underlying t = some (.float .f64)) : DownV P t 1 (fun a : Nat => CV.flt a) (fun a => (Lit.float .f64 a).wf = true) := by
  refine ⟨fun a => ⟨rfl, by simp [CV.cells, CV.one]⟩, ?_⟩
  intro H enc w base spare held fuel cs x h
  cases fuel with
  | zero => simp [DataW.trod] at h
  | succ n =>
    unfold DataW.trod at h
    rw [ht] at h
    split at h <;> simp_all
    obtain ⟨⟨rfl, hw⟩, rfl⟩ := h
    subst_vars
    exact ⟨_, .flt _, fun _ => hw⟩
theorem wts_all {H : Type} {P : Program} {e : TypeId} : ∀ {l : List (DataW H)} {d : DataW H}, d ∈ l → ∀ n ∈ d.weights P e, n ∈ DataW.weightsAll P e l
  | d0 :: r, d, hd, n, hn => by
    simp only [DataW.weightsAll, List.mem_append]
    rcases List.mem_cons.1 hd with rfl | hd
    · exact .inl hn
    · exact .inr (wts_all hd n hn)
theorem dv_slice {P : Program} {α : Type} [Inhabited α] {f : α → CV} {Q : α → Prop} {t e n B : Nat} (ht : P.underlying t = some (.slice e)) (hC : P.cellsOf e = n) (hn : 0 < n) (hB : P.bytesOf e = B) (hd : DownV P e n f Q) :
    DownV P t 1 (fun l : List α => CV.sl n (l.map f)) (fun l => l.length * B ≤ reachBytes ∧ ∀ x ∈ l, Q x) := by
  refine ⟨fun a => ⟨rfl, by simp [CV.cells, CV.one]⟩, ?_⟩
  intro H enc w base spare held fuel cs x h
  rcases Go.Deep.open_slice ht h with ⟨rfl, rfl⟩ | ⟨a, len, cap, m, k, D, Pl, rfl, hb, hl, hm, hmm, rfl, hi⟩
  · refine ⟨[], rfl, fun j hj => ?_, fun _ => ⟨by simp, by simp⟩⟩
    have : j = 0 := by omega
    subst this
    exact .slnil _ _ _
  · have hlm : len ≤ m := by
      rw [hmm]
      split <;> omega
    obtain ⟨g, hg⟩ := Go.Deep.choose_lt (n := len) (p := fun i (y : α × List Value) => w.cells? base (a.add (i * P.cellsOf e)) (P.cellsOf e) = some y.2 ∧ (∀ j, j < n → VR w (All w) ((f y.1).cells.getD j .undef) (y.2.getD j Go.undef)) ∧ ((∀ n ∈ (D i).weights P e, n ≤ reachBytes) → Q y.1)) (fun i hi' => by
      obtain ⟨cs', hc, ht'⟩ := hi i (by omega)
      obtain ⟨y, hy, hv, hq⟩ := hd.2 ht'
      exact ⟨(y, cs'), hc, hv, hq⟩)
    refine ⟨(List.range len).map fun i => (g i).1, rfl, fun j hj => ?_, fun hw => ⟨?_, ?_⟩⟩
    · have : j = 0 := by omega
      subst this
      show VR w (All w) (.sl n (((List.range len).map fun i => (g i).1).map f)) (.slice (some a) len cap)
      by_cases h0 : len = 0
      · subst h0; exact .slnil _ _ _
      have hcell : ∀ i, i < len → ∀ j, j < n → w.cell? ⟨a.block, a.off + (i * n + j), none⟩ = some ((g i).2.getD j Go.undef) := by
        intro i hi' j hj
        obtain ⟨hc, _, _⟩ := hg i hi'
        rw [hC] at hc
        obtain ⟨_, hcl, hat⟩ := World.cells?_some hc
        have h1 := hat j hj
        rw [Go.Deep.add_add] at h1
        have h2 : (g i).2[j]? = some ((g i).2.getD j Go.undef) := by
          rw [List.getD_eq_getElem?_getD, List.getElem?_eq_getElem (by omega)]; rfl
        rw [h2] at h1
        unfold Addr.add at h1
        split at h1
        · rename_i e0
          rw [e0, Nat.add_zero]
          have hsp : a.spot = none := by
            cases hs : a.spot with
            | none => rfl
            | some s =>
              rw [World.cell?, hs] at h1
              split at h1 <;> simp at h1
          have : a = ⟨a.block, a.off, none⟩ := by cases a; simp_all
          rw [this] at h1
          exact h1
        · exact h1
      have hsp : a = ⟨a.block, a.off, none⟩ := by
        obtain ⟨hc, _, _⟩ := hg 0 (by omega)
        rw [hC] at hc
        obtain ⟨_, hcl, hat⟩ := World.cells?_some hc
        have h1 := hat 0 hn
        rw [Go.Deep.add_add, Nat.zero_mul, Nat.zero_add] at h1
        have h2 : (g 0).2[0]? = some ((g 0).2.getD 0 Go.undef) := by
          rw [List.getD_eq_getElem?_getD, List.getElem?_eq_getElem (by omega)]; rfl
        rw [h2] at h1
        unfold Addr.add at h1
        rw [if_pos rfl] at h1
        have hsp : a.spot = none := by
          cases hs : a.spot with
          | none => rfl
          | some s =>
            rw [World.cell?, hs] at h1
            split at h1 <;> simp at h1
        cases a; simp_all
      rw [hsp]
      have hl2 : (((List.range len).map fun i => (g i).1).map f).length = len := by simp
      have := VR.sl (w := w) (S := All w) n (((List.range len).map fun i => (g i).1).map f) a.block a.off cap (fun i j => (g i).2.getD j Go.undef) (by rw [hl2]; exact hl) (fun x hx => by
        obtain ⟨y, _, rfl⟩ := List.mem_map.1 hx
        exact hd.1 y) (fun i j hi' hj => by
          rw [hl2] at hi'
          exact ⟨cell_lt (hcell i hi' j hj), hcell i hi' j hj⟩) (fun i j hi' hj => by
          rw [hl2] at hi'
          have e1 : (((List.range len).map fun i => (g i).1).map f).getD i .undef = f (g i).1 := by
            simp [List.getD_eq_getElem?_getD, hi']
          rw [e1]
          exact (hg i hi').2.1 j hj)
      rw [hl2] at this
      exact this
    · have h1 := hw ((((List.range len).map D).length + ((List.range (m - len)).map fun j => D (len + j)).length) * P.bytesOf e) (by simp [DataW.weights, ht])
      simp only [List.length_map, List.length_range] at h1 ⊢
      rw [hB] at h1
      exact Nat.le_trans (Nat.mul_le_mul_right _ (Nat.le_add_right _ _)) h1
    · intro y hy
      obtain ⟨i, hir, rfl⟩ := List.mem_map.1 hy
      have hil : i < len := List.mem_range.1 hir
      obtain ⟨_, _, hq⟩ := hg i hil
      refine hq (fun n hn => hw n ?_)
      have h1 := wts_all (P := P) (e := e) (l := (List.range len).map D) (List.mem_map.2 ⟨i, hir, rfl⟩) n hn
      simp only [DataW.weights, ht, List.mem_cons, List.mem_append]
      exact .inr (.inl h1)
def Rec.wf (r : Rec) : Prop := r.ok ∧ r.to.length ≤ 35184372088832 ∧ r.weight < 18446744073709551616
instance : Inhabited Rec := ⟨⟨0, 0, 0, 0, [], ⟨#[]⟩, ⟨#[]⟩, 0⟩⟩
theorem i64_of {n : Int} (h : (Lit.int .i64 n).wf = true) : i64ok n := by
  simp [Lit.wf, IntKind.min, IntKind.max, IntKind.bits, IntKind.signed] at h
  unfold i64ok
  omega
theorem i32_of {n : Int} (h : (Lit.int .i32 n).wf = true) : i32ok n := by
  simp [Lit.wf, IntKind.min, IntKind.max, IntKind.bits, IntKind.signed] at h
  unfold i32ok
  omega
theorem dv_rec : DownV Try.prog 47 8 Rec.cv Rec.wf := by
  refine ⟨fun a => ⟨rfl, by simp [Rec.cv, CV.cells, CV.one]⟩, ?_⟩
  intro H enc w base spare held fuel cs x h
  obtain ⟨ys, n, -, hx, hlen, hyl, hf⟩ := DataW.trod_struct Try.underlying47 h
  subst hx
  have hcl : cs.length = 8 := hlen.trans (by kernel_rfl)
  obtain ⟨c0, c1, c2, c3, c4, c5, c6, c7, rfl⟩ : ∃ c0 c1 c2 c3 c4 c5 c6 c7, cs = [c0, c1, c2, c3, c4, c5, c6, c7] := by
    match cs, hcl with
    | [c0, c1, c2, c3, c4, c5, c6, c7], _ => exact ⟨_, _, _, _, _, _, _, _, rfl⟩
  have hyl2 : ys.length = 8 := hyl
  obtain ⟨y0, y1, y2, y3, y4, y5, y6, y7, rfl⟩ : ∃ y0 y1 y2 y3 y4 y5 y6 y7, ys = [y0, y1, y2, y3, y4, y5, y6, y7] := by
    match ys, hyl2 with
    | [y0, y1, y2, y3, y4, y5, y6, y7], _ => exact ⟨_, _, _, _, _, _, _, _, rfl⟩
  have g0 : DataW.trod enc Try.prog w base spare held n 3 [c0] = some y0 := by
    have e1 : Try.prog.cellsOf 3 = 1 := by kernel_rfl
    have e2 : DataW.trod enc Try.prog w base spare held n 3 (([c0, c1, c2, c3, c4, c5, c6, c7].drop 0).take (Try.prog.cellsOf 3)) = some y0 := hf 0 _ rfl
    rw [e1] at e2
    exact e2
  have g1 : DataW.trod enc Try.prog w base spare held n 3 [c1] = some y1 := by
    have e1 : Try.prog.cellsOf 3 = 1 := by kernel_rfl
    have e2 : DataW.trod enc Try.prog w base spare held n 3 (([c0, c1, c2, c3, c4, c5, c6, c7].drop 1).take (Try.prog.cellsOf 3)) = some y1 := hf 1 _ rfl
    rw [e1] at e2
    exact e2
  have g2 : DataW.trod enc Try.prog w base spare held n 3 [c2] = some y2 := by
    have e1 : Try.prog.cellsOf 3 = 1 := by kernel_rfl
    have e2 : DataW.trod enc Try.prog w base spare held n 3 (([c0, c1, c2, c3, c4, c5, c6, c7].drop 2).take (Try.prog.cellsOf 3)) = some y2 := hf 2 _ rfl
    rw [e1] at e2
    exact e2
  have g3 : DataW.trod enc Try.prog w base spare held n 3 [c3] = some y3 := by
    have e1 : Try.prog.cellsOf 3 = 1 := by kernel_rfl
    have e2 : DataW.trod enc Try.prog w base spare held n 3 (([c0, c1, c2, c3, c4, c5, c6, c7].drop 3).take (Try.prog.cellsOf 3)) = some y3 := hf 3 _ rfl
    rw [e1] at e2
    exact e2
  have g4 : DataW.trod enc Try.prog w base spare held n 23 [c4] = some y4 := by
    have e1 : Try.prog.cellsOf 23 = 1 := by kernel_rfl
    have e2 : DataW.trod enc Try.prog w base spare held n 23 (([c0, c1, c2, c3, c4, c5, c6, c7].drop 4).take (Try.prog.cellsOf 23)) = some y4 := hf 4 _ rfl
    rw [e1] at e2
    exact e2
  have g5 : DataW.trod enc Try.prog w base spare held n 9 [c5] = some y5 := by
    have e1 : Try.prog.cellsOf 9 = 1 := by kernel_rfl
    have e2 : DataW.trod enc Try.prog w base spare held n 9 (([c0, c1, c2, c3, c4, c5, c6, c7].drop 5).take (Try.prog.cellsOf 9)) = some y5 := hf 5 _ rfl
    rw [e1] at e2
    exact e2
  have g6 : DataW.trod enc Try.prog w base spare held n 9 [c6] = some y6 := by
    have e1 : Try.prog.cellsOf 9 = 1 := by kernel_rfl
    have e2 : DataW.trod enc Try.prog w base spare held n 9 (([c0, c1, c2, c3, c4, c5, c6, c7].drop 6).take (Try.prog.cellsOf 9)) = some y6 := hf 6 _ rfl
    rw [e1] at e2
    exact e2
  have g7 : DataW.trod enc Try.prog w base spare held n 45 [c7] = some y7 := by
    have e1 : Try.prog.cellsOf 45 = 1 := by kernel_rfl
    have e2 : DataW.trod enc Try.prog w base spare held n 45 (([c0, c1, c2, c3, c4, c5, c6, c7].drop 7).take (Try.prog.cellsOf 45)) = some y7 := hf 7 _ rfl
    rw [e1] at e2
    exact e2
  obtain ⟨b0, -, v0, q0⟩ := (dv_int Try.underlying3).2 g0
  obtain ⟨b1, -, v1, q1⟩ := (dv_int Try.underlying3).2 g1
  obtain ⟨b2, -, v2, q2⟩ := (dv_int Try.underlying3).2 g2
  obtain ⟨b3, -, v3, q3⟩ := (dv_int Try.underlying3).2 g3
  obtain ⟨b4, -, v4, q4⟩ := (dv_slice (B := 4) Try.underlying23 (by kernel_rfl) (by decide) (by kernel_rfl) (dv_int Try.underlying21)).2 g4
  obtain ⟨b5, -, v5, q5⟩ := (dv_str Try.underlying9).2 g5
  obtain ⟨b6, -, v6, q6⟩ := (dv_str Try.underlying9).2 g6
  obtain ⟨b7, -, v7, q7⟩ := (dv_flt Try.underlying45).2 g7
  refine ⟨⟨b0, b1, b2, b3, b4, b5, b6, b7⟩, rfl, fun j hj => ?_, fun hw => ?_⟩
  · match j, hj with
    | 0, _ => exact v0 0 (by decide)
    | 1, _ => exact v1 0 (by decide)
    | 2, _ => exact v2 0 (by decide)
    | 3, _ => exact v3 0 (by decide)
    | 4, _ => exact v4 0 (by decide)
    | 5, _ => exact v5 0 (by decide)
    | 6, _ => exact v6 0 (by decide)
    | 7, _ => exact v7 0 (by decide)
  · simp only [DataW.weights, Try.underlying47, List.map_cons, List.map_nil, DataW.weightsEach, List.mem_append, List.not_mem_nil, or_false] at hw
    have z4 := q4 fun m hm => hw m (.inr (.inr (.inr (.inr (.inl hm)))))
    refine ⟨⟨i64_of (q0 fun m hm => hw m (.inl hm)), i64_of (q1 fun m hm => hw m (.inr (.inl hm))), i64_of (q2 fun m hm => hw m (.inr (.inr (.inl hm)))), i64_of (q3 fun m hm => hw m (.inr (.inr (.inr (.inl hm))))), fun c hc => i32_of (z4.2 c hc)⟩, ?_, ?_⟩
    · have := z4.1
      unfold reachBytes at this
      show b4.length ≤ _
      omega
    · have := q7 fun m hm => hw m (.inr (.inr (.inr (.inr (.inr (.inr (.inr hm)))))))
      simpa [Lit.wf] using this
theorem arg_recs {H : Type} {enc : TypeId × Value → H} {W : World} {base : Nat} {spare : Nat → Bool} {held : Bool} {dd : DataW H} {ps : List MemPlace} {ts : List TypeId} {ds : List (DataW H)} {j : Nat}
    (hsz : (DataW.weightsEach Try.prog ts ds).all (· ≤ reachBytes) = true) (ht : ts[j]? = some 22) (hdd : ds[j]? = some dd) {a : Option Addr} {len cap : Nat} (h : DataW.Trod enc Try.prog W base spare held 22 (.slice a len cap) dd ps) :
    ∃ l : List Rec, VR W (All W) (.sl 8 (recs l)) (.slice a len cap) ∧ l.length < 9223372036854775808 ∧ (∀ r ∈ l, r.ok) ∧ (∀ r ∈ l, r.to.length ≤ 35184372088832) ∧ ∀ r ∈ l, r.weight < 18446744073709551616 := by
  obtain ⟨fuel, hf⟩ := h
  obtain ⟨l, -, hv, hq⟩ := (dv_slice (B := 96) Try.underlying22 (by kernel_rfl) (by decide) (by kernel_rfl) dv_rec).2 hf
  have z := hq fun n hn => by
    have z := List.all_eq_true.1 hsz _ (DataW.weights_mem_each ht hdd n hn)
    simpa using z
  have z1 := z.1
  unfold reachBytes at z1
  refine ⟨l, hv 0 (by decide), by omega, fun r hr => (z.2 r hr).1, fun r hr => (z.2 r hr).2.1, fun r hr => (z.2 r hr).2.2⟩
theorem hr_nil (ι : Nat → Loc) (w : World) : HR ι (All w) [] w := by
  have nope : ∀ id, ¬ Owned ι [] id := fun id ho => by unfold Owned at ho; simp [LH.get] at ho
  exact ⟨fun id cs hg => by simp [LH.get] at hg, fun id e xs hg => by simp [LH.get] at hg, fun id e xs hg => by simp [LH.get] at hg, fun i j hi => absurd hi (nope _), fun i hi => absurd hi (nope _), fun i hi => absurd hi (nope _), fun b hb => hb⟩
end Go.Proofs.Ytcpdnpaedkcebaa.V
namespace Go.Proofs.Ytcpdnpaedkcebaa.V
open Go Go.RowKit
set_option linter.unusedVariables false
set_option linter.unusedSimpArgs false
set_option maxRecDepth 100000
theorem u32_wf {n : Int} (h : (Lit.int .u32 n).wf = true) : 0 ≤ n ∧ n < 4294967296 := by
  simp [Lit.wf, IntKind.min, IntKind.max, IntKind.bits, IntKind.signed] at h
  omega
theorem arg_int {H : Type} {enc : TypeId × Value → H} {W : World} {base : Nat} {spare : Nat → Bool} {held : Bool} {dd : DataW H} {ps : List MemPlace} {ts : List TypeId} {ds : List (DataW H)} {j : Nat} {n : Int}
    (hsz : (DataW.weightsEach Try.prog ts ds).all (· ≤ reachBytes) = true) (ht : ts[j]? = some 3) (hdd : ds[j]? = some dd) (h : DataW.Trod enc Try.prog W base spare held 3 (.int .i64 n) dd ps) :
    VR W (All W) (.int .i64 n) (.int .i64 n) ∧ i64ok n := by
  obtain ⟨fuel, hf⟩ := h
  obtain ⟨m, hm, hv, hq⟩ := (dv_int Try.underlying3).2 (cs := [.int .i64 n]) hf
  have z := hq fun n hn => by
    have z := List.all_eq_true.1 hsz _ (DataW.weights_mem_each ht hdd n hn)
    simpa using z
  have hv0 : VR W (All W) (.int .i64 m) (.int .i64 n) := hv 0 (by decide)
  cases hv0
  exact ⟨hv 0 (by decide), i64_of z⟩
theorem arg_u32 {H : Type} {enc : TypeId × Value → H} {W : World} {base : Nat} {spare : Nat → Bool} {held : Bool} {dd : DataW H} {ps : List MemPlace} {ts : List TypeId} {ds : List (DataW H)} {j : Nat} {n : Int}
    (hsz : (DataW.weightsEach Try.prog ts ds).all (· ≤ reachBytes) = true) (ht : ts[j]? = some 62) (hdd : ds[j]? = some dd) (h : DataW.Trod enc Try.prog W base spare held 62 (.int .u32 n) dd ps) :
    VR W (All W) (.int .u32 n) (.int .u32 n) ∧ 0 ≤ n ∧ n < 4294967296 := by
  obtain ⟨fuel, hf⟩ := h
  obtain ⟨m, hm, hv, hq⟩ := (dv_int Try.underlying62).2 (cs := [.int .u32 n]) hf
  have z := hq fun n hn => by
    have z := List.all_eq_true.1 hsz _ (DataW.weights_mem_each ht hdd n hn)
    simpa using z
  have hv0 : VR W (All W) (.int .u32 m) (.int .u32 n) := hv 0 (by decide)
  cases hv0
  exact ⟨hv 0 (by decide), u32_wf z⟩
theorem calls5 {P : Program} {f : FuncId} {x y z p q : CV} (h : CW P f [.cv x, .cv y, .cv z, .cv p, .cv q] ⟨[.cv (.bool true)], []⟩) {w : World} {u v t a b : Value} (hu : VR w (All w) x u) (hv : VR w (All w) y v) (ht : VR w (All w) z t) (ha : VR w (All w) p a) (hb : VR w (All w) q b) :
    Calls P f #[u, v, t, a, b] w fun e w' => e = .returned (.bool true) ∧ Below w.heap.size w w' := by
  refine (h.2.2 (fun _ => ⟨0, 0, 0, true⟩) (All w) w [u, v, t, a, b] rfl (fun j hj => ?_) (hr_nil _ w)).mono fun e w' hp => ?_
  · match j, hj with
    | 0, _ => exact .c _ _ hu
    | 1, _ => exact .c _ _ hv
    | 2, _ => exact .c _ _ ht
    | 3, _ => exact .c _ _ ha
    | 4, _ => exact .c _ _ hb
  · obtain ⟨r, ι', S', rfl, r1, r2, r3, r4, r5, r6, r7⟩ := hp
    have e1 := avr_bool (v := .c (.bool true)) r1
    exact ⟨by rw [e1], r7.below fun b ⟨id, ho, _⟩ => ho⟩
end Go.Proofs.Ytcpdnpaedkcebaa.V
