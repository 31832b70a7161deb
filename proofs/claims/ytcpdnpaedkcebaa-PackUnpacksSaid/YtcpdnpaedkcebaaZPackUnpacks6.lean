/- Towards the law PackUnpacks (what pack.Unpack tells), part 6: the texts Xm Pe Yq Yr Pg Ys Yl Yk Yn Yo Yp Yv Xp Yw Pi Pk Pl Xq, what of them is used. -/
import Derived.Test.YtcpdnpaedkcebaaZPackUnpacks5
namespace Go.Proofs.Ytcpdnpaedkcebaa.V
open Go Go.RowKit
set_option linter.unusedVariables false
set_option linter.unusedSimpArgs false
set_option maxRecDepth 100000
def abc : ByteArray := ⟨#[97, 98, 99, 100, 101, 102, 103, 104, 105, 106, 107, 108, 109, 110, 111, 112, 113, 114, 115, 116, 117, 118, 119, 120, 121, 122]⟩
def digits : ByteArray := ⟨#[48, 49, 50, 51, 52, 53, 54, 55, 56, 57, 45, 46]⟩
def hB (r : Rec) (a b : Int) : LH := [(704, robj r), (1408, .obj [.c (.int .i32 a), .c (.int .i32 b)])]
def hS : LH := [(1472, .row 1 [.str abc, .str digits])]
def Rec.right (r : Rec) : Prop := r.ok ∧ rightR r = 0
theorem right_parts {r : Rec} (h : r.right) : famK r.kind ≠ 0 ∧ (r.kind = 15 → r.lo = 0 ∧ r.hi = 0) ∧ (r.kind ≠ 15 → 0 ≤ r.lo ∧ r.lo ≤ r.hi ∧ r.hi ≤ 1114111) ∧ fitsR r = true := by
  obtain ⟨hok, hr⟩ := h
  unfold rightR at hr
  by_cases hf : famK r.kind = 0
  · rw [if_pos hf] at hr; omega
  rw [if_neg hf] at hr
  by_cases hc : (if r.kind = 15 then r.lo = 0 ∧ r.hi = 0 else 0 ≤ r.lo ∧ r.lo ≤ r.hi ∧ r.hi ≤ 1114111) ∧ fitsR r = true
  · obtain ⟨h1, h2⟩ := hc
    refine ⟨hf, fun hk => ?_, fun hk => ?_, h2⟩
    · rw [if_pos hk] at h1; exact h1
    · rw [if_neg hk] at h1; exact h1
  · rw [if_neg hc] at hr; omega
theorem right_shift {r : Rec} (h : r.right) (hk : r.kind = 4) : 1 ≤ r.n ∧ r.n ≤ 64 := by
  have hf := (right_parts h).2.2.2
  unfold fitsR at hf
  simp only [hk] at hf
  simp only [Bool.and_eq_true, show ¬((4 : Int) = 3) by decide, if_false, if_true] at hf
  have h2 := hf.2
  unfold shiftsR at h2
  split at h2
  · simp only [Bool.and_eq_true, decide_eq_true_eq] at h2
    exact ⟨h2.1.1.1.1, h2.1.1.1.2⟩
  · cases h2
theorem right_span {r : Rec} (h : r.right) (hk : r.kind ≠ 15) : r.span := by
  obtain ⟨h1, h2, h3⟩ := (right_parts h).2.2.1 hk
  refine ⟨h.1, hk, h1, h2, h3, ?_, ?_⟩
  · unfold st
    split
    · rename_i h4; exact (right_shift h h4).1
    · omega
  · unfold st
    split
    · rename_i h4; exact (right_shift h h4).2
    · omega
theorem fam_ten {k : Int} : famK k = 10 ↔ k = 15 := by unfold famK; (repeat' split) <;> omega
theorem fam_le (k : Int) : famK k ≤ 10 := by unfold famK; (repeat' split) <;> omega
theorem clash_eq {o r : Rec} (ho : o.right) (hr : r.right) : (decide (famK o.kind = famK r.kind) && clashP (famK r.kind) o r) = clashF o r := by
  by_cases hf : famK o.kind = famK r.kind
  · by_cases hk : r.kind = 15
    · have hok : o.kind = 15 := fam_ten.1 (by rw [hf]; exact fam_ten.2 hk)
      unfold clashP clashF
      rw [hk, hok]
      simp [famK]
    · have hok : o.kind ≠ 15 := fun h => hk (fam_ten.1 (by rw [← hf]; exact fam_ten.2 h))
      have hlt : famK r.kind < 10 := by
        have h1 := fam_le r.kind
        have h2 := mt fam_ten.1 hk
        omega
      have h1 : clashP (famK r.kind) o r = meetR o r := by
        unfold clashP
        rw [decide_eq_true hlt, decide_eq_false (by omega)]
        simp
      rw [h1, decide_eq_true hf, Bool.true_and, Bool.eq_iff_iff, meetR_iff (right_span ho hok) (right_span hr hk), clashF_iff (right_span ho hok) (right_span hr hk) hf]
  · unfold clashF
    rw [decide_eq_false hf, if_pos hf]
    rfl
def Rec.wok (r : Rec) : Prop := r.weight < 18446744073709551616
theorem rights_eq : ∀ (l : List Rec) (i : Int), (∀ r ∈ l, r.ok) → (∀ r ∈ l, r.wok) → rightsP l i = rightsF l i
  | [], _, _, _ => rfl
  | r :: l, i, h, hw => by
    rw [rightsP, rightsF, right_eq (h r (List.mem_cons_self ..)) (hw r (List.mem_cons_self ..)), rights_eq l (i + 1) (fun x hx => h x (List.mem_cons_of_mem _ hx)) (fun x hx => hw x (List.mem_cons_of_mem _ hx))]
theorem rights_none : ∀ {l : List Rec} {i : Int}, (∀ r ∈ l, r.ok) → rightsP l i = none → ∀ r ∈ l, r.right
  | r :: l, i, h, hn, x, hx => by
    rw [rightsP] at hn
    by_cases hr : rightR r ≠ 0
    · rw [if_pos hr] at hn; cases hn
    · rw [if_neg hr] at hn
      rcases List.mem_cons.1 hx with rfl | hx
      · exact ⟨h x (List.mem_cons_self ..), Decidable.of_not_not hr⟩
      · exact rights_none (fun y hy => h y (List.mem_cons_of_mem _ hy)) hn x hx
theorem any_fam {p : List Rec} {r : Rec} (hp : ∀ o ∈ p, o.right) (hr : r.right) : (fam p (famK r.kind)).any (fun o => clashP (famK r.kind) o r) = p.any (fun o => clashF o r) := by
  unfold fam
  rw [List.any_filter, Bool.eq_iff_iff]
  simp only [List.any_eq_true]
  constructor
  · rintro ⟨o, ho, h⟩; exact ⟨o, ho, (clash_eq (hp o ho) hr) ▸ h⟩
  · rintro ⟨o, ho, h⟩; exact ⟨o, ho, (clash_eq (hp o ho) hr).symm ▸ h⟩
theorem twice_eq (l : List Rec) : ∀ (s p : List Rec) (i : Int), (∀ o ∈ p, o.right) → (∀ o ∈ s, o.right) → twiceP p s i = twiceF l p s i
  | [], _, _, _, _ => rfl
  | r :: s, p, i, hp, hs => by
    have hr := hs r (List.mem_cons_self ..)
    have hs' : ∀ o ∈ s, o.right := fun x hx => hs x (List.mem_cons_of_mem _ hx)
    have hp' : ∀ o ∈ p ++ [r], o.right := fun x hx => by
      rcases List.mem_append.1 hx with h | h
      · exact hp x h
      · rw [List.mem_singleton.1 h]; exact hr
    rw [twiceP, twiceF, any_fam hp hr, twice_eq l s (p ++ [r]) (i + 1) hp' hs']
theorem check_eq {l : List Rec} (h : ∀ r ∈ l, r.ok) (hw : ∀ r ∈ l, r.wok) : checkP l = checkF l := by
  unfold checkP checkF
  rw [← rights_eq l 0 h hw]
  split
  · rfl
  cases hr : rightsP l 0 with
  | some x => rfl
  | none =>
    rw [twice_eq l l [] 0 (by simp) (rights_none h hr)] <;> rfl
theorem check_right {l : List Rec} (h : ∀ r ∈ l, r.ok) (hc : (checkP l).2 = 0) : ∀ r ∈ l, r.right := by
  unfold checkP at hc
  split at hc
  · simp at hc
  · cases hr : rightsP l 0 with
    | none => exact rights_none h hr
    | some x =>
      exfalso
      rw [hr] at hc
      simp only at hc
      have : ∀ (l : List Rec) (i : Int) (x : Int × Int), rightsP l i = some x → x.2 ≠ 0 := by
        intro l
        induction l with
        | nil => intro i x h; simp [rightsP] at h
        | cons r l ih =>
          intro i x h
          rw [rightsP] at h
          split at h
          · rename_i h2; cases h; exact h2
          · exact ih _ _ h
      exact this l 0 x hr hc
def ep0 : IC := (.reg [⟨(some 2), 0, none, .mv (.c .nilsl)⟩,
  ⟨(some 3), 0, none, .mv (.c (.int .i64 0))⟩,
  ⟨(some 4), 0, none, .mv (.c (.int .i64 0))⟩])
theorem chk_ep0 : chkC Try.prog Try.f32.ntmps ep0 (seqA (codeOf Try.f32)) = true := by decide +kernel
def ep1 : IC := (.seq (.reg [⟨(some 13), 0, none, .mv (.t 0)⟩,
  ⟨(some 14), 1, none, .call (.c (.fn 30)) [((.t 13), .view 8)]⟩,
  ⟨(some 12), 0, none, .mv (.t 14)⟩,
  ⟨(some 15), 0, none, .ext (.t 12) 0⟩,
  ⟨(some 16), 0, none, .ext (.t 12) 1⟩,
  ⟨(some 5), 0, none, .mv (.t 15)⟩,
  ⟨(some 6), 0, none, .mv (.t 16)⟩]) (.seq (.reg [⟨(some 17), 0, none, .mv (.t 6)⟩,
  ⟨(some 18), 0, none, .bin .neq (.t 17) (.c (.int .i64 0))⟩]) (.cond (.t 18) (.seq (.reg [⟨(some 19), 0, none, .mv (.t 5)⟩,
  ⟨(some 20), 0, none, .mv (.t 6)⟩,
  ⟨(some 2), 0, none, .mv (.c .nilsl)⟩,
  ⟨(some 3), 0, none, .mv (.t 19)⟩,
  ⟨(some 4), 0, none, .mv (.t 20)⟩]) .ret) .skip)))
theorem chk_ep1 : chkC Try.prog Try.f32.ntmps ep1 (seqA (seqB (codeOf Try.f32))) = true := by decide +kernel
def l32_1 : IC := (.seq (.reg [⟨(some 47), 0, none, .bin .lss (.t 46) (.t 45)⟩]) (.seq (.cond (.t 47) .skip (.exit 2)) (.seq (.block 3 (.seq (.reg [⟨(some 48), 0, none, .ia (.t 44) (.t 46) 2⟩,
  ⟨(some 49), 0, none, .ld (.t 48) (some 2)⟩,
  ⟨(some 11), 25, none, .alloc [.nilfn, .nilfn]⟩,
  ⟨none, 0, none, .st (.t 11) (.t 49) (some 2)⟩]) (.reg [⟨(some 50), 0, none, .mv (.t 7)⟩,
  ⟨(some 51), 0, none, .fa (.t 11) 0⟩,
  ⟨(some 52), 0, none, .ld (.t 51) none⟩,
  ⟨(some 53), 0, none, .ld (.t 9) (some 8)⟩,
  ⟨(some 54), 26, none, .call (.t 52) [((.t 53), .plain)]⟩,
  ⟨(some 55), 36, none, .app (.t 50) (.t 54) 1 1 false⟩,
  ⟨(some 7), 0, none, .mv (.t 55)⟩]))) (.reg [⟨(some 56), 0, none, .bin .add (.t 46) (.c (.int .i64 1))⟩,
  ⟨(some 46), 0, none, .mv (.t 56)⟩]))))
def n32_1 : Norm := ⟨[(7, .own 1 1000007), (9, .plain), (30, .plain), (31, .plain), (32, .plain), (44, .own 2 1000044), (45, .plain), (46, .plain)], [(768, [.plain, .plain, .plain, .plain, .plain, .plain, .plain, .plain])]⟩
def l32_0 : IC := (.seq (.reg [⟨(some 33), 0, none, .bin .lss (.t 32) (.t 31)⟩]) (.seq (.cond (.t 33) .skip (.exit 0)) (.seq (.block 1 (.seq (.reg [⟨(some 34), 0, none, .ia (.t 30) (.t 32) 8⟩,
  ⟨(some 35), 0, none, .ld (.t 34) (some 8)⟩,
  ⟨(some 9), 12, none, .alloc [(.int .i64 0), (.int .i64 0), (.int .i64 0), (.int .i64 0), .nilsl, (.str ⟨#[]⟩), (.str ⟨#[]⟩), (.flt 0)]⟩,
  ⟨none, 0, none, .st (.t 9) (.t 35) (some 8)⟩]) (.seq (.reg [⟨(some 36), 0, none, .mv (.t 7)⟩,
  ⟨(some 37), 0, none, .fa (.t 9) 0⟩,
  ⟨(some 38), 0, none, .ld (.t 37) none⟩,
  ⟨(some 39), 0, none, .conv .u8 (.t 38)⟩,
  ⟨(some 40), 13, none, .bsl 1 [(.t 39)]⟩,
  ⟨(some 41), 14, none, .app (.t 36) (.t 40) 1 1 false⟩,
  ⟨(some 7), 0, none, .mv (.t 41)⟩]) (.seq (.seq (.reg [⟨(some 42), 0, none, .fa (.t 9) 0⟩,
  ⟨(some 43), 0, none, .ld (.t 42) none⟩,
  ⟨(some 44), 15, none, .call (.c (.fn 57)) [((.t 43), .plain)]⟩,
  ⟨(some 45), 0, none, .len false (.t 44)⟩,
  ⟨(some 46), 0, none, .mv (.c (.int .i64 0))⟩]) (.block 2 (.loop n32_1 l32_1))) (.seq (.reg [⟨(some 57), 0, none, .mv (.t 7)⟩,
  ⟨(some 58), 0, none, .len false (.t 57)⟩,
  ⟨(some 59), 0, none, .bin .gtr (.t 58) (.c (.int .i64 262144))⟩]) (.cond (.t 59) (.seq (.reg [⟨(some 2), 0, none, .mv (.c .nilsl)⟩,
  ⟨(some 3), 0, none, .mv (.c (.int .i64 0))⟩,
  ⟨(some 4), 0, none, .mv (.c (.int .i64 2))⟩]) .ret) .skip)))))) (.reg [⟨(some 60), 0, none, .bin .add (.t 32) (.c (.int .i64 1))⟩,
  ⟨(some 32), 0, none, .mv (.t 60)⟩]))))
def n32_0 : Norm := ⟨[(7, .own 1 1000007), (30, .plain), (31, .plain), (32, .plain)], []⟩
def ep2 : IC := (.seq (.reg [⟨(some 25), 0, none, .mv (.t 7)⟩,
  ⟨(some 26), 0, none, .mv (.t 0)⟩,
  ⟨(some 27), 0, none, .len false (.t 26)⟩,
  ⟨(some 28), 1, none, .call (.c (.fn 56)) [((.t 27), .plain)]⟩,
  ⟨(some 29), 11, none, .app (.t 25) (.t 28) 1 1 false⟩,
  ⟨(some 7), 0, none, .mv (.t 29)⟩]) (.seq (.seq (.reg [⟨(some 30), 0, none, .mv (.t 0)⟩,
  ⟨(some 31), 0, none, .len false (.t 30)⟩,
  ⟨(some 32), 0, none, .mv (.c (.int .i64 0))⟩]) (.block 0 (.loop n32_0 l32_0))) (.seq (.reg [⟨(some 61), 0, none, .mv (.t 7)⟩,
  ⟨(some 62), 0, none, .mv (.t 7)⟩,
  ⟨(some 63), 37, none, .call (.c (.fn 58)) [((.t 62), .view 1)]⟩,
  ⟨(some 64), 47, none, .app (.t 61) (.t 63) 1 1 false⟩,
  ⟨(some 7), 0, none, .mv (.t 64)⟩]) (.seq (.seq (.reg [⟨(some 65), 0, none, .mv (.t 7)⟩,
  ⟨(some 66), 0, none, .len false (.t 65)⟩,
  ⟨(some 67), 0, none, .bin .gtr (.t 66) (.c (.int .i64 262144))⟩]) (.cond (.t 67) (.seq (.reg [⟨(some 2), 0, none, .mv (.c .nilsl)⟩,
  ⟨(some 3), 0, none, .mv (.c (.int .i64 0))⟩,
  ⟨(some 4), 0, none, .mv (.c (.int .i64 2))⟩]) .ret) .skip)) (.seq (.reg [⟨(some 68), 0, none, .mv (.t 7)⟩,
  ⟨(some 2), 0, none, .mv (.t 68)⟩,
  ⟨(some 3), 0, none, .mv (.c (.int .i64 0))⟩,
  ⟨(some 4), 0, none, .mv (.c (.int .i64 0))⟩]) .ret)))))
theorem chk_ep2 : chkC Try.prog Try.f32.ntmps ep2 (seqB (seqB (seqB (codeOf Try.f32)))) = true := by decide +kernel
def writeF (f : Nat) (r : Rec) : List UInt8 :=
  if f = 81 then uintP r.lo else if f = 84 then uintP (IntKind.i64.wrap (r.hi - r.lo)) else if f = 86 then uintP r.n else if f = 88 then uintP (r.to.getD 0 0) else
  if f = 90 then toL r.to else if f = 92 then textL r.name else if f = 96 then textL r.other else floatL r.weight
theorem right_to {r : Rec} (h : r.right) : r.to.length ≤ 24 := by
  have hf := (right_parts h).2.2.2
  have none_to : ∀ {n m w : Bool}, noneR n true m w r = true → r.to.length ≤ 24 := by
    intro n m w hn
    unfold noneR at hn
    split at hn
    · cases hn
    · rename_i hc
      have : ¬(0 : Int) < r.to.length := fun h => hc (.inr ⟨rfl, h⟩)
      omega
  have snd_to : ∀ {a b : Int}, b ≤ 24 → soundR r a b = true → r.to.length ≤ 24 := by
    intro a b hb hn
    unfold soundR at hn
    simp only [Bool.and_eq_true, decide_eq_true_eq] at hn
    omega
  unfold fitsR at hf
  by_cases h3 : r.kind = 3
  · rw [if_pos h3] at hf; simp only [Bool.and_eq_true] at hf; exact snd_to (by decide) hf.2
  rw [if_neg h3] at hf
  by_cases h4 : r.kind = 4
  · rw [if_pos h4] at hf; simp only [Bool.and_eq_true] at hf
    have h2 := hf.2
    unfold shiftsR at h2
    split at h2
    · rename_i hto; rw [hto]; simp
    · cases h2
  rw [if_neg h4] at hf
  by_cases h5 : r.kind = 5
  · rw [if_pos h5] at hf; simp only [Bool.and_eq_true] at hf; exact snd_to (by decide) hf.2
  rw [if_neg h5] at hf
  by_cases h6 : r.kind = 6
  · rw [if_pos h6] at hf; simp only [Bool.and_eq_true] at hf; exact none_to hf.1
  rw [if_neg h6] at hf
  by_cases h7 : r.kind = 7
  · rw [if_pos h7] at hf; simp only [Bool.and_eq_true] at hf; exact snd_to (by decide) hf.2
  rw [if_neg h7] at hf
  by_cases h8 : r.kind = 8
  · rw [if_pos h8] at hf; simp only [Bool.and_eq_true] at hf; exact snd_to (by decide) hf.2
  rw [if_neg h8] at hf
  by_cases h9 : r.kind = 9
  · rw [if_pos h9] at hf; simp only [Bool.and_eq_true] at hf; exact none_to hf.1
  rw [if_neg h9] at hf
  by_cases h10 : r.kind = 10
  · rw [if_pos h10] at hf; simp only [Bool.and_eq_true] at hf; exact none_to hf.1
  rw [if_neg h10] at hf
  by_cases h12 : r.kind = 12
  · rw [if_pos h12] at hf; simp only [Bool.and_eq_true] at hf; exact none_to hf.1
  rw [if_neg h12] at hf
  by_cases h13 : r.kind = 13
  · rw [if_pos h13] at hf; simp only [Bool.and_eq_true] at hf; exact snd_to (by decide) hf.2
  rw [if_neg h13] at hf
  by_cases h14 : r.kind = 14
  · rw [if_pos h14] at hf; simp only [Bool.and_eq_true] at hf; exact none_to hf.1
  rw [if_neg h14] at hf
  by_cases h15 : r.kind = 15
  · rw [if_pos h15] at hf; simp only [Bool.and_eq_true] at hf; exact none_to hf.1.1.1.1
  rw [if_neg h15] at hf
  exact none_to hf
theorem name_four {s : ByteArray} (h : nameS s = true) : s.size = 4 := by
  unfold nameS at h
  simp only [Bool.and_eq_true, decide_eq_true_eq] at h
  exact h.1.1.1
theorem right_one4 {r : Rec} (h : r.right) (hk : r.kind = 4) : ∃ a, r.to = [a] := by
  have hf := (right_parts h).2.2.2
  unfold fitsR at hf
  rw [if_neg (by omega), if_pos hk] at hf
  simp only [Bool.and_eq_true] at hf
  have h2 := hf.2
  unfold shiftsR at h2
  split at h2
  · rename_i a hto; exact ⟨a, hto⟩
  · cases h2
theorem right_name {r : Rec} (h : r.right) (hk : r.kind = 12 ∨ r.kind = 15) : r.name.size = 4 := by
  have hf := (right_parts h).2.2.2
  unfold fitsR at hf
  rcases hk with hk | hk
  · simp only [hk] at hf; simp at hf; exact name_four hf.2
  · simp only [hk] at hf; simp at hf; exact name_four hf.1.1.1.2
theorem right_other {r : Rec} (h : r.right) (hk : r.kind = 15) : r.other.size = 4 := by
  have hf := (right_parts h).2.2.2
  unfold fitsR at hf
  simp only [hk] at hf; simp at hf; exact name_four hf.1.1.2
theorem parts8_88 {k : Int} (h : (88, 89) ∈ parts8 k) : k = 4 := by
  unfold parts8 at h
  (repeat' split at h) <;> simp at h <;> grind
theorem parts8_92 {k : Int} (h : (92, 94) ∈ parts8 k) : k = 12 ∨ k = 15 := by
  unfold parts8 at h
  (repeat' split at h) <;> simp at h <;> grind
theorem parts8_96 {k : Int} (h : (96, 97) ∈ parts8 k) : k = 15 := by
  unfold parts8 at h
  (repeat' split at h) <;> simp at h <;> grind
theorem cwWrite {r : Rec} (hr : r.right) (hw : r.wok) {p : Nat × Nat} (h : p ∈ parts8 r.kind) : CW Try.prog p.1 [.cv r.cv] ⟨[.own 1 (bys (writeF p.1 r))], []⟩ ∧ (writeF p.1 r).length ≤ 300 := by
  have hto := right_to hr
  have hok := hr.1
  have u9 : ∀ n : Int, n < 9223372036854775808 → (uintP n).length ≤ 300 := fun n hn => Nat.le_trans (uintP_9 hn) (by decide)
  have ts : ∀ s : ByteArray, s.size = 4 → (textL s).length ≤ 300 := fun s hs => by
    unfold textL
    have := uintL_9 (n := s.size) (by omega)
    rw [List.length_append, size_len]; omega
  rcases parts8_mem h with e | e | e | e | e | e | e | e <;> subst e
  · exact ⟨cw81 r hok, u9 _ hok.2.1.2⟩
  · exact ⟨cw84 r hok, u9 _ (wrap_ok _).2⟩
  · exact ⟨cw86 r hok, u9 _ hok.2.2.2.1.2⟩
  · obtain ⟨a, ha⟩ := right_one4 hr (parts8_88 h)
    have hc : i32ok a := hok.2.2.2.2 a (by rw [ha]; exact List.mem_singleton.2 rfl)
    have e : writeF 88 r = uintP a := by show uintP (r.to.getD 0 0) = _; rw [ha]; rfl
    rw [e]
    exact ⟨cw88 r hok a ha, u9 _ (by unfold i32ok at hc; omega)⟩
  · refine ⟨cw90 r hok (by omega), ?_⟩
    show (toL r.to).length ≤ 300
    unfold toL
    have h1 := uints_len r.to hok.2.2.2.2
    have h2 := uintP_9 (n := r.to.length) (by omega)
    rw [List.length_append]; omega
  · have h4 := right_name hr (parts8_92 h)
    exact ⟨cw92 r (by omega), ts _ h4⟩
  · have h4 := right_other hr (parts8_96 h)
    exact ⟨cw96 r (by omega), ts _ h4⟩
  · exact ⟨cw98 r hw, by show (floatL r.weight).length ≤ 300; rw [floatL_len]; decide⟩
def recL (r : Rec) : List UInt8 := by8 r.kind :: (parts8 r.kind).flatMap fun p => writeF p.1 r
def packH (n : Nat) : List UInt8 := [101, 110, 100, 111, 1] ++ uintL n
def packB (l : List Rec) : List UInt8 := (packH l.length ++ l.flatMap recL) ++ sum4 (sumW (packH l.length ++ l.flatMap recL))
def packF (l : List Rec) : List UInt8 × Int × Int :=
  if (checkP l).2 ≠ 0 then ([], checkP l) else if 262144 < (packB l).length then ([], 0, 2) else (packB l, 0, 0)
def h32 : LH := [(576000, .dead), (576064, .row 1 (bys [1])), (576128, .row 1 (bys [101, 110, 100, 111, 1]))]
theorem flat_len (l : List (Nat × Nat)) (r : Rec) (h : ∀ p ∈ l, (writeF p.1 r).length ≤ 300) : (l.flatMap fun p => writeF p.1 r).length ≤ 300 * l.length := by
  induction l with
  | nil => simp
  | cons p l ih =>
    have h1 := h p List.mem_cons_self
    have h2 := ih fun x hx => h x (List.mem_cons_of_mem _ hx)
    simp only [List.flatMap_cons, List.length_append, List.length_cons]
    omega
theorem parts8_len (k : Int) : (parts8 k).length ≤ 4 := by unfold parts8; (repeat' split) <;> simp
theorem recL_len {r : Rec} (hr : r.right) (hw : r.wok) : (recL r).length ≤ 1201 := by
  unfold recL
  have := flat_len (parts8 r.kind) r fun p hp => (cwWrite hr hw hp).2
  have := parts8_len r.kind
  simp only [List.length_cons]
  omega
theorem w32r (l : List Rec) (hn : l.length ≤ 4096) (hr : ∀ r ∈ l, r.right) (hw : ∀ r ∈ l, r.wok) (Q : Ex → Slots → LH → Prop)
    (hQ : ∀ σ H, OwnAt 1 (bys (if 262144 < (packB l).length then ([], 0, 2) else (packB l, 0, 0) : List UInt8 × Int × Int).1) (Slots.get σ 2) H → Slots.get σ 3 = .c (.int .i64 (if 262144 < (packB l).length then ([], 0, 2) else (packB l, 0, 0) : List UInt8 × Int × Int).2.1) →
      Slots.get σ 4 = .c (.int .i64 (if 262144 < (packB l).length then ([], 0, 2) else (packB l, 0, 0) : List UInt8 × Int × Int).2.2) → Q .ret σ H) :
    rnC Try.prog ep2 Q [(0, .c (.sl 8 (recs l))), (7, .osl 576128 0 5)] h32 := by
  have u9 := uintP_9 (n := (l.length : Int)) (by omega)
  unfold ep2 h32
  simp only [go_sem, ↓reduceIte, Nat.reduceEqDiff, Nat.reduceMul, Nat.reduceAdd, Nat.reduceDiv, Nat.reduceSub, Nat.reduceLT, Nat.reduceLeDiff, Int.reduceLE, Int.reduceLT, Int.reduceToNat, Int.reduceEq]
  refine callK_O 1 (bys (uintP (l.length : Int))) (fun _ => cw56 (l.length : Int) (by omega)) (by simp only [go_sem, ↓reduceIte, Nat.reduceEqDiff, Nat.reduceMul, Nat.reduceAdd, Nat.reduceDiv, Nat.reduceSub, Nat.reduceLT, Nat.reduceLeDiff, Int.reduceLE, Int.reduceLT, Int.reduceToNat, Int.reduceEq]) rfl rfl ?_
  simp only [go_sem, ↓reduceIte, Nat.reduceEqDiff, Nat.reduceMul, Nat.reduceAdd, Nat.reduceDiv, Nat.reduceSub, Nat.reduceLT, Nat.reduceLeDiff, Int.reduceLE, Int.reduceLT, Int.reduceToNat, Int.reduceEq]
  repeat (refine ⟨by (first | omega | (intro h1 h2; exact ⟨h1, h2⟩) | (intro h1; omega) | (intro h1; exact h1) | trivial), ?_⟩)
  have ht5 : List.take 5 (bys [101, 110, 100, 111, 1]) = bys [101, 110, 100, 111, 1] := rfl
  rw [bys_take, ht5, bys_len, bys_app, uintP_nat]
  have u9' := uintL_9 (n := l.length) (by omega)
  have e0 : [101, 110, 100, 111, 1] ++ uintL l.length = packH l.length := rfl
  have e00 : 5 + (uintL l.length).length = (packH l.length).length := by unfold packH; rw [List.length_append]; rfl
  rw [e0, e00]
  refine ⟨by omega, ?_⟩
  generalize hB : (fun i : Nat => packH l.length ++ (l.take i).flatMap recL) = B
  have hB0 : B 0 = packH l.length := by rw [← hB]; simp
  have hBl : (B 0).length ≤ 262144 := by rw [hB0, ← e00]; omega
  have hBm : ∀ i, (B i).length ≤ (packB l).length := fun i => by
    have h1 : ((l.take i).flatMap recL).length ≤ (l.flatMap recL).length := by
      conv => rhs; rw [← List.take_append_drop i l]
      rw [List.flatMap_append, List.length_append]; exact Nat.le_add_right _ _
    rw [← hB]
    unfold packB
    simp only [List.length_append]
    omega
  rw [← hB0]
  refine loopR.by (α := Nat) (fun i => [(7, .osl 1000007 0 (B i).length), (30, .c (.sl 8 (recs l))), (31, .c (.int .i64 l.length)), (32, .c (.int .i64 i))]) (fun i => [(1000007, .row 1 (bys (B i)))]) (fun i => l.length - i) (fun i => i ≤ l.length ∧ (B i).length ≤ 262144) 0 ⟨Nat.zero_le _, hBl⟩ ?_ ?_
  · intro Y hY
    simp only [go_sem, ↓reduceIte, Nat.reduceEqDiff, Nat.reduceMul, Nat.reduceAdd, Nat.reduceDiv, Nat.reduceSub, Nat.reduceLT, Nat.reduceLeDiff, Int.reduceLE, Int.reduceLT, Int.reduceToNat, Int.reduceEq, n32_0]
    first | exact hY | exact ⟨by simp, hY⟩
  intro i hi Y hY
  obtain ⟨hi, hlen⟩ := hi
  unfold l32_0
  rcases Nat.lt_or_ge i l.length with hlt | hge
  · obtain ⟨r, e, hm, hd⟩ := recs_at hlt
    have hrr := hr r hm
    have hwr := hw r hm
    have hL8 := recL_len hrr hwr
    have hB1 : B (i + 1) = B i ++ recL r := by
      have : l[i]? = some r := by rw [← List.head?_drop, hd]; rfl
      rw [← hB]
      simp only [List.take_add_one, this, Option.toList_some, List.flatMap_append, List.flatMap_cons, List.flatMap_nil, List.append_nil, List.append_assoc]
    have hY' := hY (i + 1)
    have hBm' := hBm (i + 1)
    rw [hB1] at hY' hBm'
    generalize hW : B i = W at *
    clear hW hY
    simp only [go_sem, ↓reduceIte, Nat.reduceEqDiff, Nat.reduceMul, Nat.reduceAdd, Nat.reduceDiv, Nat.reduceSub, Nat.reduceLT, Nat.reduceLeDiff, Int.reduceLE, Int.reduceLT, Int.reduceToNat, Int.reduceEq, n32_0, e]
    refine ⟨fun _ => ⟨by omega, by omega, ?_⟩, fun h => by omega⟩
    rw [bys_take, by8_cv]
    have hfl : (fcv (parts8 r.kind)).length = (parts8 r.kind).length := by simp [fcv]
    refine callK_O 2 (fcv (parts8 r.kind)) (fun _ => cw57 r.kind) (by simp only [go_sem, ↓reduceIte, Nat.reduceEqDiff, Nat.reduceMul, Nat.reduceAdd, Nat.reduceDiv, Nat.reduceSub, Nat.reduceLT, Nat.reduceLeDiff, Int.reduceLE, Int.reduceLT, Int.reduceToNat, Int.reduceEq]) rfl rfl ?_
    simp only [go_sem, ↓reduceIte, Nat.reduceEqDiff, Nat.reduceMul, Nat.reduceAdd, Nat.reduceDiv, Nat.reduceSub, Nat.reduceLT, Nat.reduceLeDiff, Int.reduceLE, Int.reduceLT, Int.reduceToNat, Int.reduceEq]
    repeat (refine ⟨by (first | omega | (intro h1 h2; exact ⟨h1, h2⟩) | (intro h1; omega) | (intro h1; exact h1) | trivial), ?_⟩)
    have hall := fun p hp => cwWrite hrr hwr (p := p) hp
    have hk8 := parts8_len r.kind
    have hrec : recL r = by8 r.kind :: (parts8 r.kind).flatMap fun p => writeF p.1 r := rfl
    rw [hfl, bys_one, bys_app]
    generalize hL : parts8 r.kind = L at *
    generalize hC : (fun j : Nat => (W ++ [by8 r.kind]) ++ (L.take j).flatMap fun p => writeF p.1 r) = C
    have hC0 : C 0 = W ++ [by8 r.kind] := by rw [← hC]; simp
    have hCn : C L.length = W ++ recL r := by rw [← hC, hrec]; simp
    have hCl : ∀ j, (C j).length ≤ 263400 := fun j => by
      rw [← hC]
      have h1 := flat_len (L.take j) r fun p hp => (hall p (List.mem_of_mem_take hp)).2
      have h2 : (L.take j).length ≤ 4 := by rw [List.length_take]; omega
      simp only [List.length_append, List.length_singleton]
      omega
    have e1 : W.length + 1 = (C 0).length := by rw [hC0]; simp
    have hCs : ∀ j (h : j < L.length), C (j + 1) = C j ++ writeF L[j].1 r := fun j h => by
      rw [← hC]
      simp only [List.take_add_one, List.getElem?_eq_getElem h, Option.toList_some, List.flatMap_append, List.flatMap_cons, List.flatMap_nil, List.append_nil, List.append_assoc]
    rw [← hC0, e1]
    clear hC hC0 e1 hrec
    refine loopR.by (α := Nat) (fun j => [(7, .osl 1000007 0 (C j).length), (9, .ref 768 0), (30, .c (.sl 8 (recs l))), (31, .c (.int .i64 l.length)), (32, .c (.int .i64 i)), (44, .osl 1000044 0 L.length), (45, .c (.int .i64 L.length)), (46, .c (.int .i64 j))])
      (fun j => [(1000007, .row 1 (bys (C j))), (1000044, .row 2 (fcv L)), (768, robj r)]) (fun j => L.length - j) (fun j => j ≤ L.length) 0 (Nat.zero_le _) ?_ ?_
    · intro Z hZ
      simp only [go_sem, ↓reduceIte, Nat.reduceEqDiff, Nat.reduceMul, Nat.reduceAdd, Nat.reduceDiv, Nat.reduceSub, Nat.reduceLT, Nat.reduceLeDiff, Int.reduceLE, Int.reduceLT, Int.reduceToNat, Int.reduceEq, n32_1, hfl]
      exact ⟨by simp, hZ⟩
    intro j hj Z hZ
    unfold l32_1 robj
    rcases Nat.lt_or_ge j L.length with hjl | hjg
    · have ee : (fcv L).getD j .undef = .agg [.fn L[j].1, .fn L[j].2] := by simp [fcv, List.getD_eq_getElem?_getD, hjl]
      have hcall := hall L[j] (List.getElem_mem hjl)
      have hs := hCs j hjl
      have hZ' := hZ (j + 1) (by omega) (by omega)
      rw [hs] at hZ'
      have hl0 := hCl j
      generalize L[j] = p at ee hcall hZ'
      simp only [go_sem, ↓reduceIte, Nat.reduceEqDiff, Nat.reduceMul, Nat.reduceAdd, Nat.reduceDiv, Nat.reduceSub, Nat.reduceLT, Nat.reduceLeDiff, Int.reduceLE, Int.reduceLT, Int.reduceToNat, Int.reduceEq, n32_1, ee, hfl]
      refine ⟨fun _ => ⟨by omega, ?_⟩, fun h => by omega⟩
      refine callK_O 1 (bys (writeF p.1 r)) (fun _ => hcall.1) (by simp only [go_sem, ↓reduceIte, Nat.reduceEqDiff, Nat.reduceMul, Nat.reduceAdd, Nat.reduceDiv, Nat.reduceSub, Nat.reduceLT, Nat.reduceLeDiff, Int.reduceLE, Int.reduceLT, Int.reduceToNat, Int.reduceEq]) rfl rfl ?_
      simp only [go_sem, ↓reduceIte, Nat.reduceEqDiff, Nat.reduceMul, Nat.reduceAdd, Nat.reduceDiv, Nat.reduceSub, Nat.reduceLT, Nat.reduceLeDiff, Int.reduceLE, Int.reduceLT, Int.reduceToNat, Int.reduceEq, hfl]
      have := hcall.2
      rw [bys_take, bys_take, bys_app, succ64 hjl (by omega)]
      simp only [bys_len]
      rw [List.length_append] at hZ'
      exact ⟨by omega, ⟨trivial, by simp⟩, hZ'⟩
    · have : j = L.length := by omega
      subst this
      have ee : (fcv L).getD L.length .undef = .undef := by
        rw [List.getD_eq_getElem?_getD, List.getElem?_eq_none (by omega)]; rfl
      simp only [go_sem, ↓reduceIte, Nat.reduceEqDiff, Nat.reduceMul, Nat.reduceAdd, Nat.reduceDiv, Nat.reduceSub, Nat.reduceLT, Nat.reduceLeDiff, Int.reduceLE, Int.reduceLT, Int.reduceToNat, Int.reduceEq, n32_1, ee, hfl]
      refine ⟨fun h => by omega, fun _ => ?_⟩
      rw [hCn]
      refine ⟨fun h => ?_, fun h => ?_⟩
      · rw [if_pos (by omega)] at hQ
        exact hQ _ _ (.inl ⟨rfl, rfl⟩) rfl rfl
      · rw [succ64 hlt (by omega)]
        exact hY' ⟨by omega, by omega⟩ (by omega)
  · have : i = l.length := by omega
    subst this
    have e : (recs l).getD l.length .undef = .undef := by
      rw [List.getD_eq_getElem?_getD, List.getElem?_eq_none (by rw [recs_len]; omega)]; rfl
    simp only [go_sem, ↓reduceIte, Nat.reduceEqDiff, Nat.reduceMul, Nat.reduceAdd, Nat.reduceDiv, Nat.reduceSub, Nat.reduceLT, Nat.reduceLeDiff, Int.reduceLE, Int.reduceLT, Int.reduceToNat, Int.reduceEq, n32_0, e]
    refine ⟨fun h => by omega, fun _ => ?_⟩
    have hBn : B l.length = packH l.length ++ l.flatMap recL := by rw [← hB]; simp
    have hp : packB l = B l.length ++ sum4 (sumW (B l.length)) := by rw [hBn]; rfl
    rw [hp] at hQ
    have c58 := cw58 (B l.length) (by omega)
    generalize B l.length = W at hlen hQ c58
    clear hB hBm hB0 hBl hBn hp hY
    have h4 : (sum4 (sumW W)).length = 4 := rfl
    have hsc := bys_scalar (sum4 (sumW W))
    generalize sum4 (sumW W) = X at hQ c58 h4 hsc
    refine callK_i ⟨[.own 1 (bys X)], []⟩ (fun _ => by rw [bys_take]; exact c58) ⟨by simp only [go_sem, ↓reduceIte, Nat.reduceEqDiff, Nat.reduceMul, Nat.reduceAdd, Nat.reduceDiv, Nat.reduceSub, Nat.reduceLT, Nat.reduceLeDiff, Int.reduceLE, Int.reduceLT, Int.reduceToNat, Int.reduceEq], .inr ⟨by simpa [OC.scalar, CV.scalar] using hsc, by simp⟩, ⟨by simp only [go_sem, ↓reduceIte, Nat.reduceEqDiff, Nat.reduceMul, Nat.reduceAdd, Nat.reduceDiv, Nat.reduceSub, Nat.reduceLT, Nat.reduceLeDiff, Int.reduceLE, Int.reduceLT, Int.reduceToNat, Int.reduceEq], by simp, by simp, by simp⟩, ?_⟩
    simp only [go_sem, ↓reduceIte, Nat.reduceEqDiff, Nat.reduceMul, Nat.reduceAdd, Nat.reduceDiv, Nat.reduceSub, Nat.reduceLT, Nat.reduceLeDiff, Int.reduceLE, Int.reduceLT, Int.reduceToNat, Int.reduceEq]
    rw [bys_take, bys_take, bys_app]
    simp only [bys_len, h4]
    have hl : (W ++ X).length = W.length + 4 := by rw [List.length_append, h4]
    rw [hl] at hQ
    refine ⟨by omega, fun h => ?_, fun h => ?_⟩
    · rw [if_pos (by omega)] at hQ
      exact hQ _ _ (.inl ⟨rfl, rfl⟩) rfl rfl
    · rw [if_neg (by omega)] at hQ
      exact hQ _ _ (own_at rfl (by rw [bys_len]; show W.length + 4 = (W ++ X).length; omega) rfl) rfl rfl
def Apart (a b : Rec) : Prop := a.right → b.right → clashF a b = false
theorem clash_mix {a b : Rec} (ha : a.kind = 15) (hb : b.kind = 15) : clashF a b = clashF b a := by
  unfold clashF
  rw [ha, hb]
  rw [Bool.eq_iff_iff]
  simp
  constructor <;> (rintro (⟨h1, h2⟩ | ⟨h1, h2⟩) <;> simp [h1, h2])
theorem Apart.symm {a b : Rec} (h : Apart a b) : Apart b a := by
  intro hb ha
  have h1 := h ha hb
  by_cases hf : famK a.kind = famK b.kind
  · by_cases hk : a.kind = 15
    · have hk2 : b.kind = 15 := fam_ten.1 (by rw [← hf]; exact fam_ten.2 hk)
      rw [clash_mix hk2 hk]; exact h1
    · have hk2 : b.kind ≠ 15 := fun h => hk (fam_ten.1 (by rw [hf]; exact fam_ten.2 h))
      cases h2 : clashF b a with
      | false => rfl
      | true =>
        have h3 := (clashF_iff (right_span hb hk2) (right_span ha hk) hf.symm).1 h2
        have h4 := (clashF_iff (right_span ha hk) (right_span hb hk2) hf).2 h3.symm
        rw [h1] at h4; cases h4
  · unfold clashF
    rw [if_pos (fun h => hf h.symm)]
theorem twice_iff (l : List Rec) : ∀ (s p : List Rec) (i : Int), twiceF l p s i = none ↔ (∀ r ∈ s, ∀ o ∈ p, clashF o r = false) ∧ s.Pairwise (fun o r => clashF o r = false)
  | [], p, i => by simp [twiceF]
  | r :: s, p, i => by
    rw [twiceF]
    by_cases h : p.any (fun o => clashF o r) = true
    · rw [if_pos h]
      simp only [reduceCtorEq, false_iff]
      rintro ⟨h1, _⟩
      obtain ⟨o, ho, h2⟩ := List.any_eq_true.1 h
      rw [h1 r (List.mem_cons_self ..) o ho] at h2
      cases h2
    · rw [if_neg h, twice_iff l s (p ++ [r]) (i + 1), List.pairwise_cons]
      have h0 : ∀ o ∈ p, clashF o r = false := fun o ho => by
        cases h2 : clashF o r with
        | false => rfl
        | true => exact absurd (List.any_eq_true.2 ⟨o, ho, h2⟩) h
      constructor
      · rintro ⟨h1, h2⟩
        refine ⟨fun x hx o ho => ?_, fun x hx => h1 x hx r (by simp), h2⟩
        rcases List.mem_cons.1 hx with rfl | hx
        · exact h0 o ho
        · exact h1 x hx o (List.mem_append.2 (.inl ho))
      · rintro ⟨h1, h2, h3⟩
        refine ⟨fun x hx o ho => ?_, h3⟩
        rcases List.mem_append.1 ho with ho | ho
        · exact h1 x (List.mem_cons_of_mem _ hx) o ho
        · rw [List.mem_singleton.1 ho]; exact h2 x hx
theorem rights_all : ∀ {l : List Rec} {i : Int}, (∀ r ∈ l, r.right) → rightsP l i = none
  | [], _, _ => rfl
  | r :: l, i, h => by
    rw [rightsP, if_neg (by rw [(h r (List.mem_cons_self ..)).2]; simp)]
    exact rights_all fun x hx => h x (List.mem_cons_of_mem _ hx)
theorem check_zero {l : List Rec} (h : ∀ r ∈ l, r.ok) : (checkP l).2 = 0 ↔ l.length ≤ 4096 ∧ (∀ r ∈ l, r.right) ∧ l.Pairwise Apart := by
  constructor
  · intro hc
    have hr := check_right h hc
    unfold checkP at hc
    rw [rights_all hr] at hc
    by_cases hn : 4096 < l.length
    · rw [if_pos hn] at hc; simp at hc
    rw [if_neg hn] at hc
    cases ht : twiceP [] l 0 with
    | some i => rw [ht] at hc; simp at hc
    | none =>
      rw [twice_eq l l [] 0 (by simp) hr] at ht
      exact ⟨by omega, hr, ((twice_iff l l [] 0).1 ht).2.imp fun h _ _ => h⟩
  · rintro ⟨h1, h2, h3⟩
    unfold checkP
    rw [rights_all h2, if_neg (by omega), twice_eq l l [] 0 (by simp) h2, (twice_iff l l [] 0).2 ⟨by simp, ?_⟩]
    exact h3.imp_of_mem fun ha hb h => h (h2 _ ha) (h2 _ hb)
theorem split32 : codeOf Try.f32 = .seq (seqA (codeOf Try.f32)) (.seq (seqA (seqB (codeOf Try.f32))) (.seq (.region 4 (opsOf (seqA (seqB (seqB (codeOf Try.f32))))) false) (seqB (seqB (seqB (codeOf Try.f32)))))) := by kernel_rfl
def z4 (f : Func) : Array Oper := opsOf (seqA (seqB (seqB (codeOf f))))
theorem z4_l : (z4 Try.f32).toList = at_ (z4 Try.f32) 0 :: at_ (z4 Try.f32) 1 :: (z4 Try.f32).toList.drop 2 := by kernel_rfl
def endo4 : Array Value := #[.int .u8 101, .int .u8 110, .int .u8 100, .int .u8 111]
theorem i5 : Try.prog.info? 5 = some Try.t5 := by kernel_rfl
theorem o0_op : (at_ (z4 Try.f32) 0).op = .buildSlice 52 4 #[(0, .const (.int .u8 101)), (1, .const (.int .u8 110)), (2, .const (.int .u8 100)), (3, .const (.int .u8 111))] := by kernel_rfl
theorem o1_op : (at_ (z4 Try.f32) 1).op = .convert 52 52 (.tmp 21) := by kernel_rfl
theorem o0_dst : (at_ (z4 Try.f32) 0).dst = some 21 := by kernel_rfl
theorem o1_dst : (at_ (z4 Try.f32) 1).dst = some 22 := by kernel_rfl
theorem o0_gd : (at_ (z4 Try.f32) 0).guard = none := by kernel_rfl
theorem o1_gd : (at_ (z4 Try.f32) 1).guard = none := by kernel_rfl
theorem run_conv (w : World) : (convert 52 52 (.slice (some ⟨w.heap.size, 0, none⟩) 4 4)).run Try.prog (w.alloc (.cells endo4 5)) = .ok (.slice (some ⟨w.heap.size, 0, none⟩) 4 4) { w with heap := w.heap.push (.cells endo4 5 (4, 5)) } := by
  have h3 : (w.alloc (.cells endo4 5)).heap[w.heap.size]? = some (.cells endo4 5 (0, 0)) := by
    show (w.heap.push _)[w.heap.size]? = _
    simp
  have hsh : (w.alloc (.cells endo4 5)).shape? w.heap.size = some (5, 4) := by
    unfold World.shape?; rw [h3]; rfl
  have hrun : (markStringish ⟨w.heap.size, 0, none⟩).run Try.prog (w.alloc (.cells endo4 5)) = .ok () ((w.alloc (.cells endo4 5)).freeze ⟨w.heap.size, 4, none⟩ 1) := by
    simp only [markStringish, shape, Sem.run_bind, Sem.run, hsh, Result.andThen_ok, freeze]
  have hw : (w.alloc (.cells endo4 5)).freeze ⟨w.heap.size, 4, none⟩ 1 = { w with heap := w.heap.push (.cells endo4 5 (4, 5)) } := by
    show World.mk _ _ _ _ _ = World.mk _ _ _ _ _
    congr 1
    show (w.heap.push _).modify _ _ = _
    apply Array.ext_getElem?
    intro k
    rw [Array.getElem?_modify]
    by_cases hk : w.heap.size = k
    · subst hk; simp
    · rw [if_neg hk, Array.getElem?_push, Array.getElem?_push]
      simp [Ne.symm hk]
  simp only [convert, Sem.run_bind, run_underlying Try.underlying52, run_underlying Try.underlying5, Result.andThen_ok]
  show ((markStringish ⟨w.heap.size, 0, none⟩) >>= fun _ => pure (Value.slice (some ⟨w.heap.size, 0, none⟩) 4 4)).run Try.prog _ = _
  rw [Sem.run_bind, hrun, Result.andThen_ok, hw]
  rfl
theorem beg32 {C : Ctx} {ι : Nat → Loc} {S : Nat → Nat → Prop} {σ : Slots} {a : Act} {w : World} (h : R C ι S σ [] a w) (hn : C.n = Try.f32.ntmps) {Q : Exit → Act → World → Prop} {rest : List Oper}
    (hk : ∀ ι' a' w', R C ι' S ((22, .osl 576000 0 4) :: (21, .osl 576000 0 4) :: σ) [(576000, .row 1 (bys [101, 110, 100, 111]))] a' w' → wpList Try.prog (z4 Try.f32) Q rest a' w') :
    wpList Try.prog (z4 Try.f32) Q (at_ (z4 Try.f32) 0 :: at_ (z4 Try.f32) 1 :: rest) a w := by
  have w0 : ∀ tm, Region.wanted (at_ (z4 Try.f32) 0) (yielded (z4 Try.f32) tm) = true := fun tm => by unfold Region.wanted; rw [o0_gd]
  have w1 : ∀ tm, Region.wanted (at_ (z4 Try.f32) 1) (yielded (z4 Try.f32) tm) = true := fun tm => by unfold Region.wanted; rw [o1_gd]
  rw [wpList, if_pos (w0 _)]
  left
  have hie : ∃ ie, Try.prog.info? 5 = some ie ∧ ie.size = 1 ∧ ie.zero = some (.int .u8 0) := ⟨Try.t5, i5, by kernel_rfl, by kernel_rfl⟩
  obtain ⟨ie, hie, hsz, hz⟩ := hie
  refine wp_buildSlice 52 5 4 _ o0_op endo4 ie (.int .u8 0) Try.underlying52 hie hz (by rw [hsz]; decide) (by rw [hsz]; decide) (by
    rw [hsz]
    rw [Array.toList_map]
    show Instr.fill (fun i => some (i * 1, 1)) _ [(0, Value.int .u8 101), (1, Value.int .u8 110), (2, Value.int .u8 100), (3, Value.int .u8 111)] = some endo4
    kernel_rfl) ?_
  rw [wpList, if_pos (w1 _)]
  left
  unfold Oper.wp execOp
  rw [o0_dst]
  have hsz : 21 < a.tmps.size := by rw [h.size, hn]; decide +kernel
  have he : (a.put (some 21) (.slice (some ⟨w.heap.size, 0, none⟩) 4 4)).eval (.tmp 21) = .slice (some ⟨w.heap.size, 0, none⟩) 4 4 := by
    simp [Act.eval, Act.put, hsz]
  simp only [o1_op, he, Sem.run_bind, run_conv w, Result.andThen_ok]
  show wpList _ _ _ _ _ _
  rw [o1_dst]
  obtain ⟨ι', hR, hv⟩ := mk_row (u := 9000) h (w' := { w with heap := w.heap.push (.cells endo4 5 (4, 5)) }) ⟨by decide, by simp⟩ rfl rfl rfl rfl (e := 1) (xs := bys [101, 110, 100, 111]) (cap := 4) (by decide) (fun x hx => by
      obtain ⟨c, _, rfl⟩ := List.mem_map.1 hx
      exact ⟨rfl, by simp [u8, CV.cells, CV.one]⟩) (by decide) (.inr (by decide)) (fun i j hi hj => by
      have : j = 0 := by omega
      subst this
      have hi : i < 4 := hi
      match i, hi with
      | 0, _ => exact .int _ _
      | 1, _ => exact .int _ _
      | 2, _ => exact .int _ _
      | 3, _ => exact .int _ _)
  have h1 := hR.put (d := some 21) hv (fun k hk => by cases hk; rw [hn]; decide +kernel)
  have h2 := h1.put (d := some 22) hv (fun k hk => by cases hk; rw [hn]; decide +kernel)
  exact hk _ _ _ h2
def q32c : List IOp := [⟨some 23, 9001, none, .bsl 1 [.c (.int .u8 1)]⟩, ⟨some 24, 9002, none, .app (.t 22) (.t 23) 1 1 false⟩, ⟨some 7, 0, none, .mv (.t 24)⟩]
theorem z4_c : chkOps Try.prog Try.f32.ntmps (z4 Try.f32) ((z4 Try.f32).toList.drop 2) q32c = true := by decide +kernel
theorem w32c (l : List Rec) (Q : Ex → Slots → LH → Prop) (hQ : ∀ σ, Has σ [(0, .c (.sl 8 (recs l))), (7, .osl 576128 0 5)] → Q .norm σ h32) : rnC Try.prog (.reg q32c) Q [(22, .osl 576000 0 4), (0, .c (.sl 8 (recs l)))] [(576000, .row 1 (bys [101, 110, 100, 111]))] := by
  unfold q32c
  simp only [go_sem, ↓reduceIte, Nat.reduceEqDiff, Nat.reduceMul, Nat.reduceAdd, Nat.reduceDiv, Nat.reduceSub, Nat.reduceLT, Nat.reduceLeDiff, Int.reduceLE, Int.reduceLT, Int.reduceToNat, Int.reduceEq]
  exact hQ _ ⟨rfl, rfl, trivial⟩
theorem wp0 (l : List Rec) (Q : Ex → Slots → LH → Prop) (hQ : ∀ σ, Has σ [(0, .c (.sl 8 (recs l)))] → Q .norm σ []) : rnC Try.prog ep0 Q [(0, .c (.sl 8 (recs l)))] [] := by
  unfold ep0
  simp only [go_sem, ↓reduceIte, Nat.reduceEqDiff, Nat.reduceMul, Nat.reduceAdd, Nat.reduceDiv, Nat.reduceSub, Nat.reduceLT, Nat.reduceLeDiff, Int.reduceLE, Int.reduceLT, Int.reduceToNat, Int.reduceEq]
  exact hQ _ ⟨rfl, trivial⟩
theorem wp1 (l : List Rec) (hl : ∀ r ∈ l, r.ok) (hto : ∀ r ∈ l, r.to.length ≤ 35184372088832) (Q : Ex → Slots → LH → Prop) (h0 : (checkP l).2 = 0 → ∀ σ, Has σ [(0, .c (.sl 8 (recs l)))] → Q .norm σ [])
    (h1 : (checkP l).2 ≠ 0 → ∀ σ, Slots.get σ 2 = .c .nilsl → Slots.get σ 3 = .c (.int .i64 (checkP l).1) → Slots.get σ 4 = .c (.int .i64 (checkP l).2) → Q .ret σ []) : rnC Try.prog ep1 Q [(0, .c (.sl 8 (recs l)))] [] := by
  unfold ep1
  simp only [go_sem, ↓reduceIte, Nat.reduceEqDiff, Nat.reduceMul, Nat.reduceAdd, Nat.reduceDiv, Nat.reduceSub, Nat.reduceLT, Nat.reduceLeDiff, Int.reduceLE, Int.reduceLT, Int.reduceToNat, Int.reduceEq]
  refine callK_2 _ _ (fun _ => cw30 l hl hto) (by simp only [go_sem, ↓reduceIte, Nat.reduceEqDiff, Nat.reduceMul, Nat.reduceAdd, Nat.reduceDiv, Nat.reduceSub, Nat.reduceLT, Nat.reduceLeDiff, Int.reduceLE, Int.reduceLT, Int.reduceToNat, Int.reduceEq]) rfl rfl ?_
  simp only [go_sem, ↓reduceIte, Nat.reduceEqDiff, Nat.reduceMul, Nat.reduceAdd, Nat.reduceDiv, Nat.reduceSub, Nat.reduceLT, Nat.reduceLeDiff, Int.reduceLE, Int.reduceLT, Int.reduceToNat, Int.reduceEq]
  repeat (refine ⟨by (first | omega | (intro h1 h2; exact ⟨h1, h2⟩) | (intro h1; omega) | (intro h1; exact h1) | trivial), ?_⟩)
  exact ⟨fun h => h1 h _ rfl rfl rfl, fun h => h0 h _ ⟨rfl, trivial⟩⟩
def rs32 : List (Nat × Option Nat × Mode) := [(2, none, .move 1), (3, none, .plain), (4, none, .plain)]
theorem cw32 (l : List Rec) (hl : ∀ r ∈ l, r.ok) (hwt : ∀ r ∈ l, r.wok) (hto : ∀ r ∈ l, r.to.length ≤ 35184372088832) :
    CW Try.prog 32 [.cv (.sl 8 (recs l))] ⟨[.own 1 (bys (packF l).1), .cv (.int .i64 (packF l).2.1), .cv (.int .i64 (packF l).2.2)], []⟩ := by
  refine CW.hand (c := codeOf Try.f32) rs32 [] Try.func32 (by kernel_rfl) (by decide +kernel) (by decide +kernel) (by show 1 ≤ Try.f32.ntmps; decide +kernel) (by show 1 ≤ 8; decide) trivial (fun C ι S a w hn hO' hR => ?_)
  have hR : R C ι S [(0, .c (.sl 8 (recs l)))] [] a w := hR
  have fin : ∀ σ H, OwnAt 1 (bys (packF l).1) (Slots.get σ 2) H → Slots.get σ 3 = .c (.int .i64 (packF l).2.1) → Slots.get σ 4 = .c (.int .i64 (packF l).2.2) → retW σ H rs32 [.cv (.sl 8 (recs l))] [] ⟨[.own 1 (bys (packF l).1), .cv (.int .i64 (packF l).2.1), .cv (.int .i64 (packF l).2.2)], []⟩ := fun σ H x y z => retO3 rfl x y z
  rw [split32]
  refine wp_seq (code_sound (C := C) ep0 _ (by rw [hn]; exact chk_ep0) hR (rn_ok _ (fun _ _ _ h => h) (wp0 l (fun e σ H => e = .norm ∧ Has σ [(0, .c (.sl 8 (recs l)))] ∧ H = []) fun σ h => ⟨rfl, h, rfl⟩)) fun e ι1 S1 σ1 H1 a1 w1 hq h1 => ?_)
  obtain ⟨rfl, hs1, rfl⟩ := hq
  have h1 := R.weak h1 hs1
  refine wp_seq (code_sound (C := C) ep1 _ (by rw [hn]; exact chk_ep1) h1 (rn_ok _ (fun _ _ _ h => h) (wp1 l hl hto (fun e σ H => (e = .norm ∧ (checkP l).2 = 0 ∧ Has σ [(0, .c (.sl 8 (recs l)))] ∧ H = []) ∨ (e = .ret ∧ OwnAt 1 (bys (packF l).1) (Slots.get σ 2) H ∧ Slots.get σ 3 = .c (.int .i64 (packF l).2.1) ∧ Slots.get σ 4 = .c (.int .i64 (packF l).2.2))) (fun h0 σ h => .inl ⟨rfl, h0, h, rfl⟩) (fun h0 σ x y z => .inr ⟨rfl, ?_⟩))) fun e ι2 S2 σ2 H2 a2 w2 hq h2 => ?_)
  · have e : packF l = ([], checkP l) := by unfold packF; rw [if_pos h0]
    rw [e]
    exact ⟨.inl ⟨x, rfl⟩, y, z⟩
  rcases hq with ⟨rfl, h0, hs2, rfl⟩ | ⟨rfl, x, y, z⟩
  rotate_left
  · exact ⟨.inr rfl, ι2, S2, σ2, H2, h2, fin _ _ x y z⟩
  have h2 := R.weak h2 hs2
  have hr := check_right hl h0
  have hn4 : l.length ≤ 4096 := ((check_zero hl).1 h0).1
  have e : packF l = if 262144 < (packB l).length then ([], 0, 2) else (packB l, 0, 0) := by unfold packF; rw [if_neg (by simpa using h0)]
  refine wp_seq (wp_region_list ?_)
  show wpList Try.prog (z4 Try.f32) _ (z4 Try.f32).toList a2 w2
  rw [z4_l]
  refine beg32 h2 hn fun ι3 a3 w3 h3 => ?_
  have h3 := R.weak (l := [(22, .osl 576000 0 4), (0, .c (.sl 8 (recs l)))]) h3 ⟨rfl, rfl, trivial⟩
  refine ops_sound (C := C) _ q32c (by rw [hn]; exact z4_c) h3 (rn_ok (.reg q32c) (fun _ _ _ h => h) (w32c l (fun e σ H => e = .norm ∧ Has σ [(0, .c (.sl 8 (recs l))), (7, .osl 576128 0 5)] ∧ H = h32) fun σ h => ⟨rfl, h, rfl⟩)) fun ι4 S4 σ4 H4 a4 w4 hq h4 => ?_
  obtain ⟨_, hs4, rfl⟩ := hq
  have h4 := R.weak h4 hs4
  refine code_sound (C := C) ep2 _ (by rw [hn]; exact chk_ep2) h4 (rn_ok _ (fun _ _ _ h => h) (w32r l hn4 hr hwt (fun e σ H => e = .ret ∧ OwnAt 1 (bys (packF l).1) (Slots.get σ 2) H ∧ Slots.get σ 3 = .c (.int .i64 (packF l).2.1) ∧ Slots.get σ 4 = .c (.int .i64 (packF l).2.2)) fun σ H x y z => ⟨rfl, by rw [e]; exact x, by rw [e]; exact y, by rw [e]; exact z⟩)) fun e' ι5 S5 σ5 H5 a5 w5 hq h5 => ?_
  obtain ⟨rfl, x, y, z⟩ := hq
  exact ⟨.inr rfl, ι5, S5, σ5, H5, h5, fin _ _ x y z⟩
def b126 : IC := (.seq (.reg [⟨(some 4), 0, none, .mv (.c (.int .i64 0))⟩]) (.seq (.seq (.reg [⟨(some 8), 0, none, .mv (.t 0)⟩,
  ⟨(some 9), 0, none, .nck (.t 8)⟩,
  ⟨(some 10), 0, none, .fa (.t 9) 2⟩,
  ⟨(some 11), 0, none, .ld (.t 10) none⟩,
  ⟨(some 12), 0, none, .bin .neq (.t 11) (.c (.int .i64 0))⟩]) (.cond (.t 12) (.seq (.reg [⟨(some 4), 0, none, .mv (.c (.int .i64 0))⟩]) .ret) .skip)) (.seq (.draw (.take 0 ⟨(some 14), 0, none, .mv (.t 0)⟩ (.take 1 ⟨(some 15), 0, none, .nck (.t 14)⟩ (.take 2 ⟨(some 16), 0, none, .fa (.t 15) 0⟩ (.take 3 ⟨(some 17), 0, none, .ld (.t 16) none⟩ (.take 4 ⟨(some 18), 0, none, .mv (.t 0)⟩ (.take 5 ⟨(some 19), 0, none, .nck (.t 18)⟩ (.take 6 ⟨(some 20), 0, none, .fa (.t 19) 1⟩ (.take 7 ⟨(some 21), 0, none, .ld (.t 20) none⟩ (.br 8 ⟨(some 22), 1, none, .call (.c (.fn 105)) [((.t 17), .view 1), ((.t 21), .plain)]⟩ [false, true, true, true, false, true, true, true] (.take 9 ⟨(some 13), 0, none, .mv (.t 22)⟩ (.take 10 ⟨(some 23), 0, none, .ext (.t 13) 0⟩ (.take 11 ⟨(some 24), 0, none, .ext (.t 13) 1⟩ (.take 12 ⟨(some 25), 0, none, .ext (.t 13) 2⟩ (.take 13 ⟨(some 5), 0, none, .mv (.t 23)⟩ (.take 14 ⟨(some 6), 0, none, .mv (.t 24)⟩ (.take 15 ⟨(some 7), 0, none, .mv (.t 25)⟩ .done))))))) .no)))))))))) (.seq (.seq (.reg [⟨(some 26), 0, none, .mv (.t 7)⟩,
  ⟨(some 27), 0, none, .bin .eql (.t 26) (.c (.int .i64 0))⟩,
  ⟨(some 28), 0, none, .mv (.t 27)⟩,
  ⟨(some 29), 0, (some (28, true)), .mv (.t 5)⟩,
  ⟨(some 30), 0, (some (28, true)), .mv (.t 1)⟩,
  ⟨(some 31), 0, (some (28, true)), .bin .gtr (.t 29) (.t 30)⟩,
  ⟨(some 32), 0, none, .pick (.t 28) (.t 31) (.c (.bool false))⟩]) (.cond (.t 32) (.reg [⟨(some 7), 0, none, .mv (.c (.int .i64 61))⟩]) .skip)) (.seq (.seq (.reg [⟨(some 33), 0, none, .mv (.t 7)⟩,
  ⟨(some 34), 0, none, .bin .neq (.t 33) (.c (.int .i64 0))⟩]) (.cond (.t 34) (.seq (.reg [⟨(some 35), 0, none, .mv (.t 0)⟩,
  ⟨(some 36), 0, none, .mv (.t 7)⟩,
  ⟨(some 37), 0, none, .nck (.t 35)⟩,
  ⟨(some 38), 0, none, .fa (.t 37) 2⟩,
  ⟨none, 0, none, .st (.t 38) (.t 36) none⟩]) (.seq (.reg [⟨(some 4), 0, none, .mv (.c (.int .i64 0))⟩]) .ret)) .skip)) (.seq (.reg [⟨(some 39), 0, none, .mv (.t 0)⟩,
  ⟨(some 40), 0, none, .mv (.t 6)⟩,
  ⟨(some 41), 0, none, .nck (.t 39)⟩,
  ⟨(some 42), 0, none, .fa (.t 41) 1⟩,
  ⟨none, 0, none, .st (.t 42) (.t 40) none⟩]) (.seq (.reg [⟨(some 43), 0, none, .mv (.t 5)⟩,
  ⟨(some 4), 0, none, .mv (.t 43)⟩]) .ret)))))))
def rs126 : List (Nat × Option Nat × Mode) := [(4, none, .plain)]
theorem chk126 : chkC Try.prog Try.f126.ntmps b126 (Try.f126.body.getD .skip) = true := by decide +kernel
theorem top126 {args : List Arg} {out : Out} (ha : args.length.ble Try.f126.ntmps = true) (h8 : args.length.ble 8 = true) (mss : List (List (Option Nat))) (hb : backOK args out.back)
    (hw : rnC Try.prog b126 (topQ rs126 args mss out) (slotsOf (argsAV argBase args 0) 0) (argsOb argBase args 0)) : CW Try.prog 126 args out :=
  CW.of Try.func126 rs126 mss (by decide +kernel) (by decide +kernel) (by decide +kernel) ha h8 chk126 hb hw
def b127 : IC := (.seq (.reg [⟨(some 2), 0, none, .mv (.c (.str ⟨#[]⟩))⟩]) (.seq (.seq (.reg [⟨(some 6), 0, none, .mv (.t 0)⟩,
  ⟨(some 7), 0, none, .nck (.t 6)⟩,
  ⟨(some 8), 0, none, .fa (.t 7) 2⟩,
  ⟨(some 9), 0, none, .ld (.t 8) none⟩,
  ⟨(some 10), 0, none, .bin .neq (.t 9) (.c (.int .i64 0))⟩]) (.cond (.t 10) (.seq (.reg [⟨(some 2), 0, none, .mv (.c (.str ⟨#[]⟩))⟩]) .ret) .skip)) (.seq (.draw (.take 0 ⟨(some 12), 0, none, .mv (.t 0)⟩ (.take 1 ⟨(some 13), 0, none, .nck (.t 12)⟩ (.take 2 ⟨(some 14), 0, none, .fa (.t 13) 0⟩ (.take 3 ⟨(some 15), 0, none, .ld (.t 14) none⟩ (.take 4 ⟨(some 16), 0, none, .mv (.t 0)⟩ (.take 5 ⟨(some 17), 0, none, .nck (.t 16)⟩ (.take 6 ⟨(some 18), 0, none, .fa (.t 17) 1⟩ (.take 7 ⟨(some 19), 0, none, .ld (.t 18) none⟩ (.br 8 ⟨(some 20), 1, none, .call (.c (.fn 135)) [((.t 15), .view 1), ((.t 19), .plain), ((.c (.int .i64 4)), .plain)]⟩ [false, true, true, true, false, true, true, true] (.take 9 ⟨(some 11), 0, none, .mv (.t 20)⟩ (.take 10 ⟨(some 21), 0, none, .ext (.t 11) 0⟩ (.take 11 ⟨(some 22), 0, none, .ext (.t 11) 1⟩ (.take 12 ⟨(some 23), 0, none, .ext (.t 11) 2⟩ (.take 13 ⟨(some 3), 0, none, .mv (.t 21)⟩ (.take 14 ⟨(some 4), 0, none, .mv (.t 22)⟩ (.take 15 ⟨(some 5), 0, none, .mv (.t 23)⟩ .done))))))) .no)))))))))) (.seq (.seq (.reg [⟨(some 24), 0, none, .mv (.t 5)⟩,
  ⟨(some 25), 0, none, .bin .neq (.t 24) (.c (.int .i64 0))⟩]) (.cond (.t 25) (.seq (.reg [⟨(some 26), 0, none, .mv (.t 0)⟩,
  ⟨(some 27), 0, none, .mv (.t 5)⟩,
  ⟨(some 28), 0, none, .nck (.t 26)⟩,
  ⟨(some 29), 0, none, .fa (.t 28) 2⟩,
  ⟨none, 0, none, .st (.t 29) (.t 27) none⟩]) (.seq (.reg [⟨(some 2), 0, none, .mv (.c (.str ⟨#[]⟩))⟩]) .ret)) .skip)) (.seq (.reg [⟨(some 30), 0, none, .mv (.t 0)⟩,
  ⟨(some 31), 0, none, .mv (.t 4)⟩,
  ⟨(some 32), 0, none, .nck (.t 30)⟩,
  ⟨(some 33), 0, none, .fa (.t 32) 1⟩,
  ⟨none, 0, none, .st (.t 33) (.t 31) none⟩]) (.seq (.reg [⟨(some 34), 0, none, .mv (.t 3)⟩,
  ⟨(some 2), 0, none, .mv (.t 34)⟩]) .ret))))))
def rs127 : List (Nat × Option Nat × Mode) := [(2, none, .plain)]
theorem chk127 : chkC Try.prog Try.f127.ntmps b127 (Try.f127.body.getD .skip) = true := by decide +kernel
theorem top127 {args : List Arg} {out : Out} (ha : args.length.ble Try.f127.ntmps = true) (h8 : args.length.ble 8 = true) (mss : List (List (Option Nat))) (hb : backOK args out.back)
    (hw : rnC Try.prog b127 (topQ rs127 args mss out) (slotsOf (argsAV argBase args 0) 0) (argsOb argBase args 0)) : CW Try.prog 127 args out :=
  CW.of Try.func127 rs127 mss (by decide +kernel) (by decide +kernel) (by decide +kernel) ha h8 chk127 hb hw
def b128 : IC := (.seq (.reg [⟨(some 2), 0, none, .mv (.c (.flt 0))⟩]) (.seq (.seq (.reg [⟨(some 6), 0, none, .mv (.t 0)⟩,
  ⟨(some 7), 0, none, .nck (.t 6)⟩,
  ⟨(some 8), 0, none, .fa (.t 7) 2⟩,
  ⟨(some 9), 0, none, .ld (.t 8) none⟩,
  ⟨(some 10), 0, none, .bin .neq (.t 9) (.c (.int .i64 0))⟩]) (.cond (.t 10) (.seq (.reg [⟨(some 2), 0, none, .mv (.c (.flt 0))⟩]) .ret) .skip)) (.seq (.draw (.take 0 ⟨(some 12), 0, none, .mv (.t 0)⟩ (.take 1 ⟨(some 13), 0, none, .nck (.t 12)⟩ (.take 2 ⟨(some 14), 0, none, .fa (.t 13) 0⟩ (.take 3 ⟨(some 15), 0, none, .ld (.t 14) none⟩ (.take 4 ⟨(some 16), 0, none, .mv (.t 0)⟩ (.take 5 ⟨(some 17), 0, none, .nck (.t 16)⟩ (.take 6 ⟨(some 18), 0, none, .fa (.t 17) 1⟩ (.take 7 ⟨(some 19), 0, none, .ld (.t 18) none⟩ (.br 8 ⟨(some 20), 1, none, .call (.c (.fn 136)) [((.t 15), .view 1), ((.t 19), .plain)]⟩ [false, true, true, true, false, true, true, true] (.take 9 ⟨(some 11), 0, none, .mv (.t 20)⟩ (.take 10 ⟨(some 21), 0, none, .ext (.t 11) 0⟩ (.take 11 ⟨(some 22), 0, none, .ext (.t 11) 1⟩ (.take 12 ⟨(some 23), 0, none, .ext (.t 11) 2⟩ (.take 13 ⟨(some 3), 0, none, .mv (.t 21)⟩ (.take 14 ⟨(some 4), 0, none, .mv (.t 22)⟩ (.take 15 ⟨(some 5), 0, none, .mv (.t 23)⟩ .done))))))) .no)))))))))) (.seq (.seq (.reg [⟨(some 24), 0, none, .mv (.t 5)⟩,
  ⟨(some 25), 0, none, .bin .neq (.t 24) (.c (.int .i64 0))⟩]) (.cond (.t 25) (.seq (.reg [⟨(some 26), 0, none, .mv (.t 0)⟩,
  ⟨(some 27), 0, none, .mv (.t 5)⟩,
  ⟨(some 28), 0, none, .nck (.t 26)⟩,
  ⟨(some 29), 0, none, .fa (.t 28) 2⟩,
  ⟨none, 0, none, .st (.t 29) (.t 27) none⟩]) (.seq (.reg [⟨(some 2), 0, none, .mv (.c (.flt 0))⟩]) .ret)) .skip)) (.seq (.reg [⟨(some 30), 0, none, .mv (.t 0)⟩,
  ⟨(some 31), 0, none, .mv (.t 4)⟩,
  ⟨(some 32), 0, none, .nck (.t 30)⟩,
  ⟨(some 33), 0, none, .fa (.t 32) 1⟩,
  ⟨none, 0, none, .st (.t 33) (.t 31) none⟩]) (.seq (.reg [⟨(some 34), 0, none, .mv (.t 3)⟩,
  ⟨(some 35), 11, none, .call (.c (.fn 134)) [((.t 34), .plain)]⟩,
  ⟨(some 2), 0, none, .mv (.t 35)⟩]) .ret))))))
def rs128 : List (Nat × Option Nat × Mode) := [(2, none, .plain)]
theorem chk128 : chkC Try.prog Try.f128.ntmps b128 (Try.f128.body.getD .skip) = true := by decide +kernel
theorem top128 {args : List Arg} {out : Out} (ha : args.length.ble Try.f128.ntmps = true) (h8 : args.length.ble 8 = true) (mss : List (List (Option Nat))) (hb : backOK args out.back)
    (hw : rnC Try.prog b128 (topQ rs128 args mss out) (slotsOf (argsAV argBase args 0) 0) (argsOb argBase args 0)) : CW Try.prog 128 args out :=
  CW.of Try.func128 rs128 mss (by decide +kernel) (by decide +kernel) (by decide +kernel) ha h8 chk128 hb hw
def b102 : IC := (.seq (.reg [⟨(some 2), 0, none, .mv (.c (.str ⟨#[]⟩))⟩]) (.seq (.seq (.reg [⟨(some 3), 0, none, .mv (.t 0)⟩]) (.block 0 (.seq (.reg [⟨(some 5), 0, none, .bin .eql (.t 3) (.c (.int .i64 3))⟩,
  ⟨(some 4), 0, none, .mv (.t 5)⟩]) (.cond (.t 4) (.seq (.reg [⟨(some 2), 0, none, .mv (.c (.str ⟨#[83, 120]⟩))⟩]) .ret) (.seq (.reg [⟨(some 7), 0, none, .bin .eql (.t 3) (.c (.int .i64 4))⟩,
  ⟨(some 6), 0, none, .mv (.t 7)⟩]) (.cond (.t 6) (.seq (.reg [⟨(some 2), 0, none, .mv (.c (.str ⟨#[83, 78, 84]⟩))⟩]) .ret) (.seq (.seq (.reg [⟨(some 9), 0, none, .bin .eql (.t 3) (.c (.int .i64 5))⟩,
  ⟨(some 8), 0, none, .mv (.t 9)⟩]) (.cond (.t 8) .skip (.seq (.reg [⟨(some 10), 0, none, .bin .eql (.t 3) (.c (.int .i64 7))⟩,
  ⟨(some 8), 0, none, .mv (.t 10)⟩]) (.cond (.t 8) .skip (.seq (.reg [⟨(some 11), 0, none, .bin .eql (.t 3) (.c (.int .i64 8))⟩,
  ⟨(some 8), 0, none, .mv (.t 11)⟩]) (.cond (.t 8) .skip (.reg [⟨(some 12), 0, none, .bin .eql (.t 3) (.c (.int .i64 13))⟩,
  ⟨(some 8), 0, none, .mv (.t 12)⟩]))))))) (.cond (.t 8) (.seq (.reg [⟨(some 2), 0, none, .mv (.c (.str ⟨#[76, 120]⟩))⟩]) .ret) (.seq (.seq (.reg [⟨(some 14), 0, none, .bin .eql (.t 3) (.c (.int .i64 6))⟩,
  ⟨(some 13), 0, none, .mv (.t 14)⟩]) (.cond (.t 13) .skip (.seq (.reg [⟨(some 15), 0, none, .bin .eql (.t 3) (.c (.int .i64 9))⟩,
  ⟨(some 13), 0, none, .mv (.t 15)⟩]) (.cond (.t 13) .skip (.reg [⟨(some 16), 0, none, .bin .eql (.t 3) (.c (.int .i64 10))⟩,
  ⟨(some 13), 0, none, .mv (.t 16)⟩]))))) (.cond (.t 13) (.seq (.reg [⟨(some 2), 0, none, .mv (.c (.str ⟨#[83, 78]⟩))⟩]) .ret) (.seq (.reg [⟨(some 18), 0, none, .bin .eql (.t 3) (.c (.int .i64 12))⟩,
  ⟨(some 17), 0, none, .mv (.t 18)⟩]) (.cond (.t 17) (.seq (.reg [⟨(some 2), 0, none, .mv (.c (.str ⟨#[83, 110]⟩))⟩]) .ret) (.seq (.reg [⟨(some 20), 0, none, .bin .eql (.t 3) (.c (.int .i64 14))⟩,
  ⟨(some 19), 0, none, .mv (.t 20)⟩]) (.cond (.t 19) (.seq (.reg [⟨(some 2), 0, none, .mv (.c (.str ⟨#[83, 87]⟩))⟩]) .ret) (.seq (.reg [⟨(some 22), 0, none, .bin .eql (.t 3) (.c (.int .i64 15))⟩,
  ⟨(some 21), 0, none, .mv (.t 22)⟩]) (.cond (.t 21) (.seq (.reg [⟨(some 2), 0, none, .mv (.c (.str ⟨#[110, 111, 87]⟩))⟩]) .ret) .skip)))))))))))))))) (.seq (.reg [⟨(some 2), 0, none, .mv (.c (.str ⟨#[83]⟩))⟩]) .ret)))
def rs102 : List (Nat × Option Nat × Mode) := [(2, none, .plain)]
theorem chk102 : chkC Try.prog Try.f102.ntmps b102 (Try.f102.body.getD .skip) = true := by decide +kernel
theorem top102 {args : List Arg} {out : Out} (ha : args.length.ble Try.f102.ntmps = true) (h8 : args.length.ble 8 = true) (mss : List (List (Option Nat))) (hb : backOK args out.back)
    (hw : rnC Try.prog b102 (topQ rs102 args mss out) (slotsOf (argsAV argBase args 0) 0) (argsOb argBase args 0)) : CW Try.prog 102 args out :=
  CW.of Try.func102 rs102 mss (by decide +kernel) (by decide +kernel) (by decide +kernel) ha h8 chk102 hb hw
def numR (b : List UInt8) (most : Int) (s : Int × Int) : Int × Int × Int := if (numP b most s).2.2 ≠ 0 then (0, (numP b most s).2) else numP b most s
theorem w126 (b : List UInt8) (most : Int) (s : Int × Int) (hb : b.length < 1000000000000000) (hs : 0 ≤ s.1 ∧ s.1 ≤ b.length) (Q : Ex → Slots → LH → Prop)
    (hQ : ∀ σ H, Slots.get σ 4 = .c (.int .i64 (numR b most s).1) → LH.get H 3000000 = some (rdH b (numR b most s).2) → Q .ret σ H) :
    rnC Try.prog b126 Q [(0, .ref 3000000 0), (1, .c (.int .i64 most))] [(3000000, rdH b s)] := by
  obtain ⟨a, e⟩ := s
  simp only at hs
  unfold b126 rdH
  simp only [go_sem, ↓reduceIte, Nat.reduceEqDiff, Nat.reduceMul, Nat.reduceAdd, Nat.reduceDiv, Nat.reduceSub, Nat.reduceLT, Nat.reduceLeDiff, Int.reduceLE, Int.reduceLT, Int.reduceToNat, Int.reduceEq]
  refine ⟨fun h => ?_, fun h => ?_⟩
  · have e1 : numR b most (a, e) = (0, a, e) := by unfold numR numP; simp [h]
    rw [e1] at hQ
    exact hQ _ _ rfl rfl
  subst h
  have e1 : numR b most (a, 0) = if (rdU b a).2.2 ≠ 0 then (0, a, (rdU b a).2.2) else if most < (rdU b a).1 then (0, a, 61) else ((rdU b a).1, (rdU b a).2.1, 0) := by
    unfold numR numP
    generalize rdU b a = U
    obtain ⟨n, p, e⟩ := U
    by_cases h1 : e = 0
    · by_cases h2 : most < n <;> simp [h1, h2]
    · simp [h1]
  rw [e1] at hQ
  refine callK_3 _ _ _ (fun _ => cw105 b a hb (by omega)) (by simp only [go_sem, ↓reduceIte, Nat.reduceEqDiff, Nat.reduceMul, Nat.reduceAdd, Nat.reduceDiv, Nat.reduceSub, Nat.reduceLT, Nat.reduceLeDiff, Int.reduceLE, Int.reduceLT, Int.reduceToNat, Int.reduceEq]) rfl rfl ?_
  simp only [go_sem, ↓reduceIte, Nat.reduceEqDiff, Nat.reduceMul, Nat.reduceAdd, Nat.reduceDiv, Nat.reduceSub, Nat.reduceLT, Nat.reduceLeDiff, Int.reduceLE, Int.reduceLT, Int.reduceToNat, Int.reduceEq]
  repeat (refine ⟨by (first | omega | (intro h1 h2; exact ⟨h1, h2⟩) | (intro h1; omega) | (intro h1; exact h1) | trivial), ?_⟩)
  refine ⟨fun h => ?_, fun h => ?_⟩
  · rw [if_neg (by simpa using h.1), if_pos h.2] at hQ
    exact hQ _ _ rfl rfl
  by_cases h1 : (rdU b a).2.2 = 0
  · have h2 : ¬most < (rdU b a).1 := fun h2 => by omega
    rw [if_neg (by simpa using h1), if_neg h2] at hQ
    exact ⟨fun h => absurd h1 h, fun _ => hQ _ _ rfl rfl⟩
  · rw [if_pos h1] at hQ
    exact ⟨fun _ => hQ _ _ rfl rfl, fun h => absurd h h1⟩
theorem cw126 (b : List UInt8) (most : Int) (s : Int × Int) (hb : b.length < 1000000000000000) (hs : 0 ≤ s.1 ∧ s.1 ≤ b.length) :
    CW Try.prog 126 [rdA b s, .cv (.int .i64 most)] ⟨[.cv (.int .i64 (numR b most s).1)], [rdB b (numR b most s).2]⟩ :=
  top126 rfl rfl [[none, none, none]] ⟨rfl, trivial⟩ (w126 b most s hb hs _ fun σ H h ho => retP1 h ho)
theorem rdT_bad {b : List UInt8} {a most : Int} (h : (rdT b a most).2.2 ≠ 0) : (rdT b a most).1 = ⟨#[]⟩ := by
  unfold rdT at h ⊢
  by_cases h1 : (a < 0 ∨ (b.length : Int) < a) ∨ most < 0
  · rw [if_pos h1]
  rw [if_neg h1] at h ⊢
  by_cases h2 : (rdU b a).2.2 ≠ 0
  · rw [if_pos h2]
  rw [if_neg h2] at h ⊢
  by_cases h3 : most < (rdU b a).1
  · rw [if_pos h3]
  rw [if_neg h3] at h ⊢
  by_cases h4 : (b.length : Int) - (rdU b a).2.1 < (rdU b a).1
  · rw [if_pos h4]
  rw [if_neg h4] at h
  exact absurd rfl h
theorem rdF_bad {b : List UInt8} {a : Int} (h : (rdF b a).2.2 ≠ 0) : (rdF b a).1 = 0 := by
  unfold rdF at h ⊢
  split
  · rfl
  · split
    · rfl
    · rename_i h1 h2
      rw [if_neg h1, if_neg h2] at h
      exact absurd rfl h
theorem w127 (b : List UInt8) (s : Int × Int) (hb : b.length < 1000000000000000) (hs : 0 ≤ s.1 ∧ s.1 ≤ b.length) (Q : Ex → Slots → LH → Prop)
    (hQ : ∀ σ H, Slots.get σ 2 = .c (.str (textP b s).1) → LH.get H 3000000 = some (rdH b (textP b s).2) → Q .ret σ H) :
    rnC Try.prog b127 Q [(0, .ref 3000000 0)] [(3000000, rdH b s)] := by
  obtain ⟨a, e⟩ := s
  simp only at hs
  unfold b127 rdH
  simp only [go_sem, ↓reduceIte, Nat.reduceEqDiff, Nat.reduceMul, Nat.reduceAdd, Nat.reduceDiv, Nat.reduceSub, Nat.reduceLT, Nat.reduceLeDiff, Int.reduceLE, Int.reduceLT, Int.reduceToNat, Int.reduceEq]
  unfold textP at hQ
  simp only at hQ
  refine ⟨fun h => ?_, fun h => ?_⟩
  · rw [if_pos h] at hQ
    exact hQ _ _ rfl rfl
  rw [if_neg (by simpa using h)] at hQ
  subst h
  refine callK_3 _ _ _ (fun _ => cw135 b a 4 hb (by omega)) (by simp only [go_sem, ↓reduceIte, Nat.reduceEqDiff, Nat.reduceMul, Nat.reduceAdd, Nat.reduceDiv, Nat.reduceSub, Nat.reduceLT, Nat.reduceLeDiff, Int.reduceLE, Int.reduceLT, Int.reduceToNat, Int.reduceEq]) rfl rfl ?_
  simp only [go_sem, ↓reduceIte, Nat.reduceEqDiff, Nat.reduceMul, Nat.reduceAdd, Nat.reduceDiv, Nat.reduceSub, Nat.reduceLT, Nat.reduceLeDiff, Int.reduceLE, Int.reduceLT, Int.reduceToNat, Int.reduceEq]
  repeat (refine ⟨by (first | omega | (intro h1 h2; exact ⟨h1, h2⟩) | (intro h1; omega) | (intro h1; exact h1) | trivial), ?_⟩)
  refine ⟨fun h => ?_, fun h => ?_⟩
  · rw [if_neg h, rdT_bad h] at hQ
    exact hQ _ _ rfl rfl
  · rw [if_pos h, h] at hQ
    exact hQ _ _ rfl rfl
theorem cw127 (b : List UInt8) (s : Int × Int) (hb : b.length < 1000000000000000) (hs : 0 ≤ s.1 ∧ s.1 ≤ b.length) :
    CW Try.prog 127 [rdA b s] ⟨[.cv (.str (textP b s).1)], [rdB b (textP b s).2]⟩ :=
  top127 rfl rfl [[none, none, none]] ⟨rfl, trivial⟩ (w127 b s hb hs _ fun σ H h ho => retP h ho)
theorem w128 (b : List UInt8) (s : Int × Int) (hb : b.length < 1000000000000000) (hs : 0 ≤ s.1 ∧ s.1 ≤ b.length) (Q : Ex → Slots → LH → Prop)
    (hQ : ∀ σ H, Slots.get σ 2 = .c (.flt (fltP b s).1) → LH.get H 3000000 = some (rdH b (fltP b s).2) → Q .ret σ H) :
    rnC Try.prog b128 Q [(0, .ref 3000000 0)] [(3000000, rdH b s)] := by
  obtain ⟨a, e⟩ := s
  simp only at hs
  unfold b128 rdH
  simp only [go_sem, ↓reduceIte, Nat.reduceEqDiff, Nat.reduceMul, Nat.reduceAdd, Nat.reduceDiv, Nat.reduceSub, Nat.reduceLT, Nat.reduceLeDiff, Int.reduceLE, Int.reduceLT, Int.reduceToNat, Int.reduceEq]
  unfold fltP at hQ
  simp only at hQ
  refine ⟨fun h => ?_, fun h => ?_⟩
  · rw [if_pos h] at hQ
    exact hQ _ _ rfl rfl
  rw [if_neg (by simpa using h)] at hQ
  subst h
  refine callK_3 _ _ _ (fun _ => cw136 b a hb (by omega)) (by simp only [go_sem, ↓reduceIte, Nat.reduceEqDiff, Nat.reduceMul, Nat.reduceAdd, Nat.reduceDiv, Nat.reduceSub, Nat.reduceLT, Nat.reduceLeDiff, Int.reduceLE, Int.reduceLT, Int.reduceToNat, Int.reduceEq]) rfl rfl ?_
  simp only [go_sem, ↓reduceIte, Nat.reduceEqDiff, Nat.reduceMul, Nat.reduceAdd, Nat.reduceDiv, Nat.reduceSub, Nat.reduceLT, Nat.reduceLeDiff, Int.reduceLE, Int.reduceLT, Int.reduceToNat, Int.reduceEq]
  repeat (refine ⟨by (first | omega | (intro h1 h2; exact ⟨h1, h2⟩) | (intro h1; omega) | (intro h1; exact h1) | trivial), ?_⟩)
  refine ⟨fun h => ?_, fun h => ?_⟩
  · rw [if_neg h, rdF_bad h] at hQ
    exact hQ _ _ rfl rfl
  · rw [if_pos h, h] at hQ
    refine callK_1 _ (fun _ => cw134 ((rdF b a).1 : Int)) (by simp only [go_sem, ↓reduceIte, Nat.reduceEqDiff, Nat.reduceMul, Nat.reduceAdd, Nat.reduceDiv, Nat.reduceSub, Nat.reduceLT, Nat.reduceLeDiff, Int.reduceLE, Int.reduceLT, Int.reduceToNat, Int.reduceEq]) rfl rfl ?_
    simp only [go_sem, ↓reduceIte, Nat.reduceEqDiff, Nat.reduceMul, Nat.reduceAdd, Nat.reduceDiv, Nat.reduceSub, Nat.reduceLT, Nat.reduceLeDiff, Int.reduceLE, Int.reduceLT, Int.reduceToNat, Int.reduceEq]
    repeat (refine ⟨by (first | omega | (intro h1 h2; exact ⟨h1, h2⟩) | (intro h1; omega) | (intro h1; exact h1) | trivial), ?_⟩)
    exact hQ _ _ rfl rfl
theorem cw128 (b : List UInt8) (s : Int × Int) (hb : b.length < 1000000000000000) (hs : 0 ≤ s.1 ∧ s.1 ≤ b.length) :
    CW Try.prog 128 [rdA b s] ⟨[.cv (.flt (fltP b s).1)], [rdB b (fltP b s).2]⟩ :=
  top128 rfl rfl [[none, none, none]] ⟨rfl, trivial⟩ (w128 b s hb hs _ fun σ H h ho => retP h ho)
def formL (k : Int) : List UInt8 :=
  if k = 3 then [83, 120] else if k = 4 then [83, 78, 84] else if k = 5 ∨ k = 7 ∨ k = 8 ∨ k = 13 then [76, 120] else
  if k = 6 ∨ k = 9 ∨ k = 10 then [83, 78] else if k = 12 then [83, 110] else if k = 14 then [83, 87] else if k = 15 then [110, 111, 87] else [83]
theorem w102 (k : Int) (Q : Ex → Slots → LH → Prop) (hQ : ∀ σ H, Slots.get σ 2 = .c (.str (strOf (formL k))) → Q .ret σ H) : rnC Try.prog b102 Q [(0, .c (.int .i64 k))] [] := by
  unfold b102
  unfold formL at hQ
  simp only [go_sem, ↓reduceIte, Nat.reduceEqDiff, Nat.reduceMul, Nat.reduceAdd, Nat.reduceDiv, Nat.reduceSub, Nat.reduceLT, Nat.reduceLeDiff, Int.reduceLE, Int.reduceLT, Int.reduceToNat, Int.reduceEq]
  repeat refine ⟨fun h => hQ _ _ (by subst h; rfl), fun h => ?_⟩
  refine hQ _ _ ?_
  simp only [go_sem, ↓reduceIte, Nat.reduceEqDiff, Nat.reduceMul, Nat.reduceAdd, Nat.reduceDiv, Nat.reduceSub, Nat.reduceLT, Nat.reduceLeDiff, Int.reduceLE, Int.reduceLT, Int.reduceToNat, Int.reduceEq]
  repeat rw [if_neg (by omega)]
  rfl
theorem cw102 (k : Int) : CW Try.prog 102 [.cv (.int .i64 k)] ⟨[.cv (.str (strOf (formL k)))], []⟩ :=
  top102 rfl rfl [] trivial (w102 k _ fun σ H h => ret1 rfl h)
def l37_0 : IC := (.seq (.reg [⟨(some 67), 0, none, .bin .lss (.t 66) (.t 65)⟩]) (.seq (.cond (.t 67) .skip (.exit 0)) (.seq (.block 1 (.seq (.reg [⟨(some 68), 0, none, .mv (.t 12)⟩,
  ⟨(some 69), 0, none, .mv (.t 7)⟩,
  ⟨(some 70), 0, none, .nck (.t 69)⟩,
  ⟨(some 71), 0, none, .fa (.t 70) 1⟩,
  ⟨(some 72), 0, none, .ld (.t 71) none⟩,
  ⟨(some 73), 22, none, .bsl 1 [(.t 72)]⟩,
  ⟨(some 74), 23, none, .app (.t 68) (.t 73) 1 8 false⟩,
  ⟨(some 12), 0, none, .mv (.t 74)⟩]) (.seq (.reg [⟨(some 75), 0, none, .mv (.t 7)⟩,
  ⟨(some 76), 24, none, .call (.c (.fn 65)) [((.t 75), .ptr [none, none, none])]⟩,
  ⟨(some 13), 34, none, .alloc [(.int .i64 0), (.int .i64 0), (.int .i64 0), (.int .i64 0), .nilsl, (.str ⟨#[]⟩), (.str ⟨#[]⟩), (.flt 0)]⟩,
  ⟨none, 0, none, .st (.t 13) (.t 76) (some 8)⟩]) (.seq (.seq (.reg [⟨(some 77), 0, none, .mv (.t 7)⟩,
  ⟨(some 78), 0, none, .nck (.t 77)⟩,
  ⟨(some 79), 0, none, .fa (.t 78) 2⟩,
  ⟨(some 80), 0, none, .ld (.t 79) none⟩,
  ⟨(some 81), 0, none, .bin .neq (.t 80) (.c (.int .i64 0))⟩]) (.cond (.t 81) (.seq (.draw (.take 0 ⟨(some 82), 0, none, .mv (.t 7)⟩ (.take 1 ⟨(some 83), 0, none, .nck (.t 82)⟩ (.take 2 ⟨(some 84), 0, none, .fa (.t 83) 1⟩ (.take 3 ⟨(some 85), 0, none, .ld (.t 84) none⟩ (.take 4 ⟨(some 86), 0, none, .mv (.t 7)⟩ (.take 5 ⟨(some 87), 0, none, .nck (.t 86)⟩ (.take 6 ⟨(some 88), 0, none, .fa (.t 87) 2⟩ (.take 7 ⟨(some 89), 0, none, .ld (.t 88) none⟩ (.take 8 ⟨(some 2), 0, none, .mv (.c .nilsl)⟩ (.take 9 ⟨(some 3), 0, none, .mv (.t 85)⟩ (.take 10 ⟨(some 4), 0, none, .mv (.t 89)⟩ .done)))))))))))) .ret) .skip)) (.reg [⟨(some 90), 0, none, .mv (.t 11)⟩,
  ⟨(some 91), 0, none, .ld (.t 13) (some 8)⟩,
  ⟨(some 92), 35, none, .bsl 8 [(.t 91)]⟩,
  ⟨(some 93), 36, none, .app (.t 90) (.t 92) 8 96 false⟩,
  ⟨(some 11), 0, none, .mv (.t 93)⟩]))))) (.reg [⟨(some 94), 0, none, .bin .add (.t 66) (.c (.int .i64 1))⟩,
  ⟨(some 66), 0, none, .mv (.t 94)⟩]))))
def n37_0 : Norm := ⟨[(7, .plain), (11, .own 8 1000011), (12, .own 1 1000012), (65, .plain), (66, .plain)], [(704, [.plain, .plain, .plain])]⟩
def b37 : IC := (.seq (.reg [⟨(some 2), 0, none, .mv (.c .nilsl)⟩,
  ⟨(some 3), 0, none, .mv (.c (.int .i64 0))⟩,
  ⟨(some 4), 0, none, .mv (.c (.int .i64 0))⟩]) (.seq (.seq (.reg [⟨(some 17), 0, none, .mv (.t 0)⟩,
  ⟨(some 18), 1, none, .call (.c (.fn 63)) [((.t 17), .view 1)]⟩,
  ⟨(some 16), 0, none, .mv (.t 18)⟩,
  ⟨(some 19), 0, none, .ext (.t 16) 0⟩,
  ⟨(some 20), 0, none, .ext (.t 16) 1⟩,
  ⟨(some 5), 0, none, .mv (.t 19)⟩,
  ⟨(some 6), 0, none, .mv (.t 20)⟩]) (.seq (.reg [⟨(some 21), 0, none, .mv (.t 6)⟩,
  ⟨(some 22), 0, none, .bin .neq (.t 21) (.c (.int .i64 0))⟩]) (.cond (.t 22) (.seq (.reg [⟨(some 23), 0, none, .mv (.t 5)⟩,
  ⟨(some 24), 0, none, .mv (.t 6)⟩,
  ⟨(some 2), 0, none, .mv (.c .nilsl)⟩,
  ⟨(some 3), 0, none, .mv (.t 23)⟩,
  ⟨(some 4), 0, none, .mv (.t 24)⟩]) .ret) .skip))) (.seq (.reg [⟨(some 25), 0, none, .mv (.t 0)⟩,
  ⟨(some 26), 0, none, .mv (.t 0)⟩,
  ⟨(some 27), 0, none, .len false (.t 26)⟩,
  ⟨(some 28), 0, none, .bin .sub (.t 27) (.c (.int .i64 4))⟩,
  ⟨(some 29), 0, none, .mv (.t 0)⟩,
  ⟨(some 30), 0, none, .len false (.t 29)⟩,
  ⟨(some 31), 0, none, .bin .sub (.t 30) (.c (.int .i64 4))⟩,
  ⟨(some 32), 0, none, .slc (.t 25) none (some (.t 28)) (some (.t 31)) 1⟩,
  ⟨(some 33), 0, none, .bld [.nilsl, (.int .i64 0), (.int .i64 0)] [(0, (.t 32)), (1, (.c (.int .i64 5)))]⟩,
  ⟨(some 34), 11, none, .box (.t 33)⟩,
  ⟨(some 7), 0, none, .mv (.t 34)⟩]) (.seq (.draw (.take 0 ⟨(some 36), 0, none, .mv (.t 7)⟩ (.take 1 ⟨(some 37), 0, none, .nck (.t 36)⟩ (.take 2 ⟨(some 38), 0, none, .fa (.t 37) 0⟩ (.take 3 ⟨(some 39), 0, none, .ld (.t 38) none⟩ (.take 4 ⟨(some 40), 0, none, .mv (.t 7)⟩ (.take 5 ⟨(some 41), 0, none, .nck (.t 40)⟩ (.take 6 ⟨(some 42), 0, none, .fa (.t 41) 1⟩ (.take 7 ⟨(some 43), 0, none, .ld (.t 42) none⟩ (.br 8 ⟨(some 44), 12, none, .call (.c (.fn 64)) [((.t 39), .view 1), ((.t 43), .plain)]⟩ [false, true, true, true, false, true, true, true] (.take 9 ⟨(some 35), 0, none, .mv (.t 44)⟩ (.take 10 ⟨(some 45), 0, none, .ext (.t 35) 0⟩ (.take 11 ⟨(some 46), 0, none, .ext (.t 35) 1⟩ (.take 12 ⟨(some 47), 0, none, .ext (.t 35) 2⟩ (.take 13 ⟨(some 8), 0, none, .mv (.t 45)⟩ (.take 14 ⟨(some 9), 0, none, .mv (.t 46)⟩ (.take 15 ⟨(some 10), 0, none, .mv (.t 47)⟩ .done))))))) .no)))))))))) (.seq (.seq (.reg [⟨(some 48), 0, none, .mv (.t 10)⟩,
  ⟨(some 49), 0, none, .bin .neq (.t 48) (.c (.int .i64 0))⟩]) (.cond (.t 49) (.seq (.draw (.take 0 ⟨(some 50), 0, none, .mv (.t 7)⟩ (.take 1 ⟨(some 51), 0, none, .nck (.t 50)⟩ (.take 2 ⟨(some 52), 0, none, .fa (.t 51) 1⟩ (.take 3 ⟨(some 53), 0, none, .ld (.t 52) none⟩ (.take 4 ⟨(some 54), 0, none, .mv (.t 10)⟩ (.take 5 ⟨(some 2), 0, none, .mv (.c .nilsl)⟩ (.take 6 ⟨(some 3), 0, none, .mv (.t 53)⟩ (.take 7 ⟨(some 4), 0, none, .mv (.t 54)⟩ .done))))))))) .ret) .skip)) (.seq (.seq (.reg [⟨(some 55), 0, none, .mv (.t 8)⟩,
  ⟨(some 56), 0, none, .bin .gtr (.t 55) (.c (.int .i64 4096))⟩]) (.cond (.t 56) (.seq (.draw (.take 0 ⟨(some 57), 0, none, .mv (.t 7)⟩ (.take 1 ⟨(some 58), 0, none, .nck (.t 57)⟩ (.take 2 ⟨(some 59), 0, none, .fa (.t 58) 1⟩ (.take 3 ⟨(some 60), 0, none, .ld (.t 59) none⟩ (.take 4 ⟨(some 2), 0, none, .mv (.c .nilsl)⟩ (.take 5 ⟨(some 3), 0, none, .mv (.t 60)⟩ (.take 6 ⟨(some 4), 0, none, .mv (.c (.int .i64 3))⟩ .done)))))))) .ret) .skip)) (.seq (.reg [⟨(some 61), 0, none, .mv (.t 7)⟩,
  ⟨(some 62), 0, none, .mv (.t 9)⟩,
  ⟨(some 63), 0, none, .nck (.t 61)⟩,
  ⟨(some 64), 0, none, .fa (.t 63) 1⟩,
  ⟨none, 0, none, .st (.t 64) (.t 62) none⟩]) (.seq (.reg [⟨(some 11), 0, none, .mv (.c .nilsl)⟩]) (.seq (.reg [⟨(some 12), 0, none, .mv (.c .nilsl)⟩]) (.seq (.seq (.reg [⟨(some 65), 0, none, .mv (.t 8)⟩,
  ⟨(some 66), 0, none, .mv (.c (.int .i64 0))⟩]) (.block 0 (.loop n37_0 l37_0))) (.seq (.seq (.draw (.take 0 ⟨(some 95), 0, none, .mv (.t 7)⟩ (.take 1 ⟨(some 96), 0, none, .nck (.t 95)⟩ (.take 2 ⟨(some 97), 0, none, .fa (.t 96) 1⟩ (.take 3 ⟨(some 98), 0, none, .ld (.t 97) none⟩ (.take 4 ⟨(some 99), 0, none, .mv (.t 7)⟩ (.take 5 ⟨(some 100), 0, none, .nck (.t 99)⟩ (.take 6 ⟨(some 101), 0, none, .fa (.t 100) 0⟩ (.take 7 ⟨(some 102), 0, none, .ld (.t 101) none⟩ (.take 8 ⟨(some 103), 0, none, .len false (.t 102)⟩ (.take 9 ⟨(some 104), 0, none, .bin .lss (.t 98) (.t 103)⟩ .done))))))))))) (.cond (.t 104) (.seq (.draw (.take 0 ⟨(some 105), 0, none, .mv (.t 7)⟩ (.take 1 ⟨(some 106), 0, none, .nck (.t 105)⟩ (.take 2 ⟨(some 107), 0, none, .fa (.t 106) 1⟩ (.take 3 ⟨(some 108), 0, none, .ld (.t 107) none⟩ (.take 4 ⟨(some 2), 0, none, .mv (.c .nilsl)⟩ (.take 5 ⟨(some 3), 0, none, .mv (.t 108)⟩ (.take 6 ⟨(some 4), 0, none, .mv (.c (.int .i64 14))⟩ .done)))))))) .ret) .skip)) (.seq (.seq (.reg [⟨(some 110), 0, none, .mv (.t 11)⟩,
  ⟨(some 111), 37, none, .call (.c (.fn 30)) [((.t 110), .view 8)]⟩,
  ⟨(some 109), 0, none, .mv (.t 111)⟩,
  ⟨(some 112), 0, none, .ext (.t 109) 0⟩,
  ⟨(some 113), 0, none, .ext (.t 109) 1⟩,
  ⟨(some 14), 0, none, .mv (.t 112)⟩,
  ⟨(some 15), 0, none, .mv (.t 113)⟩]) (.seq (.reg [⟨(some 114), 0, none, .mv (.t 15)⟩,
  ⟨(some 115), 0, none, .bin .neq (.t 114) (.c (.int .i64 0))⟩]) (.cond (.t 115) (.seq (.draw (.take 0 ⟨(some 116), 0, none, .mv (.t 12)⟩ (.take 1 ⟨(some 117), 0, none, .mv (.t 14)⟩ (.take 2 ⟨(some 118), 0, none, .ia (.t 116) (.t 117) 1⟩ (.take 3 ⟨(some 119), 0, none, .ld (.t 118) none⟩ (.take 4 ⟨(some 120), 0, none, .mv (.t 15)⟩ (.take 5 ⟨(some 2), 0, none, .mv (.c .nilsl)⟩ (.take 6 ⟨(some 3), 0, none, .mv (.t 119)⟩ (.take 7 ⟨(some 4), 0, none, .mv (.t 120)⟩ .done))))))))) .ret) .skip))) (.seq (.reg [⟨(some 121), 0, none, .mv (.t 11)⟩,
  ⟨(some 2), 0, none, .mv (.t 121)⟩,
  ⟨(some 3), 0, none, .mv (.c (.int .i64 0))⟩,
  ⟨(some 4), 0, none, .mv (.c (.int .i64 0))⟩]) .ret)))))))))))))
def rs37 : List (Nat × Option Nat × Mode) := [(2, none, .move 8), (3, none, .plain), (4, none, .plain)]
theorem chk37 : chkC Try.prog Try.f37.ntmps b37 (Try.f37.body.getD .skip) = true := by decide +kernel
theorem top37 {args : List Arg} {out : Out} (ha : args.length.ble Try.f37.ntmps = true) (h8 : args.length.ble 8 = true) (mss : List (List (Option Nat))) (hb : backOK args out.back)
    (hw : rnC Try.prog b37 (topQ rs37 args mss out) (slotsOf (argsAV argBase args 0) 0) (argsOb argBase args 0)) : CW Try.prog 37 args out :=
  CW.of Try.func37 rs37 mss (by decide +kernel) (by decide +kernel) (by decide +kernel) ha h8 chk37 hb hw
theorem readsF_spec (b : List UInt8) {k : Int} : ∀ (l : List (Nat × Nat)) (s : Int × Int) (r : Rec), (∀ p ∈ l, p ∈ parts8 k) → (0 ≤ s.1 ∧ s.1 ≤ b.length) → r.fine →
    (0 ≤ (readsF b l s r).1.1 ∧ (readsF b l s r).1.1 ≤ b.length) ∧ (readsF b l s r).2.to.length ≤ r.to.length + 24 * l.length ∧ (readsF b l s r).2.fine
  | [], s, r, _, hs, hr => ⟨hs, Nat.le_add_right _ _, hr⟩
  | p :: l, s, r, hl, hs, hr => by
    rw [readsF]
    obtain ⟨q1, q2, q3⟩ := readF_spec (hl p List.mem_cons_self) b s r hs hr
    obtain ⟨t1, t2, t3⟩ := readsF_spec b l _ _ (fun x hx => hl x (List.mem_cons_of_mem _ hx)) q1 q3
    refine ⟨t1, ?_, t3⟩
    simp only [List.length_cons]
    omega
def recR (b : List UInt8) (a : Int) : Rec := (readsF b (parts8 (kindAt b a)) (a + 1, 0) (zeroR (kindAt b a))).2
theorem kind_fine (b : List UInt8) (a : Int) : (zeroR (kindAt b a)).fine := by
  have := (b.getD a.toNat 0).toNat_lt
  refine ⟨⟨by unfold kindAt zeroR i64ok; simp only; omega, by simp [zeroR, i64ok], by simp [zeroR, i64ok], by simp [zeroR, i64ok], by simp [zeroR]⟩, by simp [zeroR]⟩
theorem recS_spec (b : List UInt8) (a : Int) (hs : 0 ≤ a ∧ a ≤ b.length) : (0 ≤ (recS b a).1 ∧ (recS b a).1 ≤ b.length) ∧ (recR b a).to.length ≤ 96 ∧ (recR b a).fine ∧ ((recS b a).2 = 0 → recC b a = (recR b a).cv) := by
  unfold recS recC
  by_cases h : a = b.length
  · have hx := readsF_spec b (k := kindAt b a) (parts8 (kindAt b a)) (a, 0) (zeroR (kindAt b a)) (fun _ h => h) hs (kind_fine b a)
    rw [if_pos h]
    have h0 : kindAt b a = 0 := by
      unfold kindAt
      rw [List.getD_eq_getElem?_getD, List.getElem?_eq_none (by omega)]; rfl
    have hp : parts8 (kindAt b a) = [] := by rw [h0]; decide
    refine ⟨hs, ?_, ?_, fun h => by simp at h⟩
    · unfold recR; rw [hp]; simp [readsF, zeroR]
    · unfold recR; rw [hp]; exact kind_fine b a
  · rw [if_neg h, if_neg h]
    have h4 : (parts8 (kindAt b a)).length ≤ 4 := by unfold parts8; (repeat' split) <;> simp
    obtain ⟨t1, t2, t3⟩ := readsF_spec b (k := kindAt b a) (parts8 (kindAt b a)) (a + 1, 0) (zeroR (kindAt b a)) (fun _ h => h) (by simp only; omega) (kind_fine b a)
    have t2' : (recR b a).to.length ≤ 96 := by
      have : (zeroR (kindAt b a)).to.length = 0 := rfl
      unfold recR; omega
    by_cases hp : parts8 (kindAt b a) = []
    · rw [if_pos hp, if_pos hp]
      exact ⟨hs, t2', t3, fun h => by simp at h⟩
    · rw [if_neg hp, if_neg hp]
      exact ⟨t1, t2', t3, fun _ => rfl⟩
def unpGo (c : List UInt8) : Nat → Int → List Int → List Rec → Except (Int × Int) (Int × List Int × List Rec)
  | 0, a, ps, l => .ok (a, ps, l)
  | k + 1, a, ps, l => if (recS c a).2 ≠ 0 then .error (recS c a) else unpGo c k (recS c a).1 (ps ++ [a]) (l ++ [recR c a])
def unpackF (b : List UInt8) : List Rec × Int × Int :=
  if (headF b).2 ≠ 0 then ([], headF b) else
  if (rdU (b.take (b.length - 4)) 5).2.2 ≠ 0 then ([], 5, (rdU (b.take (b.length - 4)) 5).2.2) else
  if 4096 < (rdU (b.take (b.length - 4)) 5).1 then ([], 5, 3) else
  match unpGo (b.take (b.length - 4)) (rdU (b.take (b.length - 4)) 5).1.toNat (rdU (b.take (b.length - 4)) 5).2.1 [] [] with
  | .error x => ([], x)
  | .ok (a, ps, l) =>
    if a < ((b.length - 4 : Nat) : Int) then ([], a, 14) else
    if (checkP l).2 ≠ 0 then ([], ps.getD (checkP l).1.toNat 0, (checkP l).2) else (l, 0, 0)
theorem head_len {b : List UInt8} (h : (headF b).2 = 0) : 10 ≤ b.length ∧ b.length ≤ 262144 := by
  unfold headF at h
  split at h
  · simp at h
  · split at h
    · simp at h
    · omega
theorem rights_at : ∀ (l : List Rec) (i : Int) (x : Int × Int), rightsP l i = some x → i ≤ x.1 ∧ x.1 < i + l.length
  | r :: l, i, x, h => by
    rw [rightsP] at h
    split at h
    · cases h; simp only [List.length_cons]; omega
    · have := rights_at l _ x h; simp only [List.length_cons]; omega
theorem twice_at : ∀ (l p : List Rec) (i x : Int), twiceP p l i = some x → i ≤ x ∧ x < i + l.length
  | r :: l, p, i, x, h => by
    rw [twiceP] at h
    split at h
    · cases h; simp only [List.length_cons]; omega
    · have := twice_at l _ _ x h; simp only [List.length_cons]; omega
theorem check_at {l : List Rec} (hl : l.length ≤ 4096) (h : (checkP l).2 ≠ 0) : 0 ≤ (checkP l).1 ∧ (checkP l).1 < l.length := by
  unfold checkP at h ⊢
  rw [if_neg (by omega)] at h ⊢
  cases hr : rightsP l 0 with
  | some x => have := rights_at l 0 x hr; simp only; omega
  | none =>
    rw [hr] at h
    cases ht : twiceP [] l 0 with
    | none => rw [ht] at h; simp at h
    | some x => have := twice_at l [] 0 x ht; simp only; omega
theorem w37 (b : List UInt8) (hb : b.length < 1000000000000000) (Q : Ex → Slots → LH → Prop) (hQ : ∀ σ H, OwnAt 8 (recs (unpackF b).1) (Slots.get σ 2) H → Slots.get σ 3 = .c (.int .i64 ((unpackF b).2.1)) → Slots.get σ 4 = .c (.int .i64 ((unpackF b).2.2)) → Q .ret σ H) : rnC Try.prog b37 Q [(0, .c (.sl 1 (bys b)))] [] := by
  unfold b37
  simp only [go_sem, ↓reduceIte, Nat.reduceEqDiff, Nat.reduceMul, Nat.reduceAdd, Nat.reduceDiv, Nat.reduceSub, Nat.reduceLT, Nat.reduceLeDiff, Int.reduceLE, Int.reduceLT, Int.reduceToNat, Int.reduceEq]
  refine callK_2 _ _ (fun _ => cw63 b hb) (by simp only [go_sem, ↓reduceIte, Nat.reduceEqDiff, Nat.reduceMul, Nat.reduceAdd, Nat.reduceDiv, Nat.reduceSub, Nat.reduceLT, Nat.reduceLeDiff, Int.reduceLE, Int.reduceLT, Int.reduceToNat, Int.reduceEq]) rfl rfl ?_
  simp only [go_sem, ↓reduceIte, Nat.reduceEqDiff, Nat.reduceMul, Nat.reduceAdd, Nat.reduceDiv, Nat.reduceSub, Nat.reduceLT, Nat.reduceLeDiff, Int.reduceLE, Int.reduceLT, Int.reduceToNat, Int.reduceEq]
  repeat (refine ⟨by (first | omega | (intro h1 h2; exact ⟨h1, h2⟩) | (intro h1; omega) | (intro h1; exact h1) | trivial), ?_⟩)
  unfold unpackF at hQ
  refine ⟨fun h => ?_, fun h => ?_⟩
  · rw [if_pos h] at hQ
    exact hQ _ _ (.inl ⟨rfl, rfl⟩) rfl rfl
  rw [if_neg (by simpa using h)] at hQ
  obtain ⟨l10, lmax⟩ := head_len h
  have e1 : IntKind.i64.wrap ((b.length : Int) - 4) = ((b.length - 4 : Nat) : Int) := by rw [wrap_i64]; omega
  have e4 : List.take (b.length - 4 - 0) (bys b) = bys (b.take (b.length - 4)) := by rw [Nat.sub_zero, ← List.drop_zero (l := bys b), bys_cut]; rfl
  have hcl : (b.take (b.length - 4)).length = b.length - 4 := by rw [List.length_take]; omega
  rw [e1, Int.toNat_natCast, e4]
  refine ⟨by omega, ?_⟩
  generalize hcc : b.take (b.length - 4) = c at *
  refine callK_3 _ _ _ (fun _ => cw64 c 5 (by omega) (by decide)) (by simp only [go_sem, ↓reduceIte, Nat.reduceEqDiff, Nat.reduceMul, Nat.reduceAdd, Nat.reduceDiv, Nat.reduceSub, Nat.reduceLT, Nat.reduceLeDiff, Int.reduceLE, Int.reduceLT, Int.reduceToNat, Int.reduceEq]) rfl rfl ?_
  simp only [go_sem, ↓reduceIte, Nat.reduceEqDiff, Nat.reduceMul, Nat.reduceAdd, Nat.reduceDiv, Nat.reduceSub, Nat.reduceLT, Nat.reduceLeDiff, Int.reduceLE, Int.reduceLT, Int.reduceToNat, Int.reduceEq]
  repeat (refine ⟨by (first | omega | (intro h1 h2; exact ⟨h1, h2⟩) | (intro h1; omega) | (intro h1; exact h1) | trivial), ?_⟩)
  have hsp := rdU_spec c 5
  refine ⟨fun h2 => ?_, fun h2 => ?_⟩
  · rw [if_pos h2] at hQ
    exact hQ _ _ (.inl ⟨rfl, rfl⟩) rfl rfl
  rw [if_neg (by simpa using h2)] at hQ
  have hsp := hsp.1 h2
  refine ⟨fun h3 => ?_, fun h3 => ?_⟩
  · rw [if_pos h3] at hQ
    exact hQ _ _ (.inl ⟨rfl, rfl⟩) rfl rfl
  rw [if_neg (by omega)] at hQ
  clear h e1 e4
  generalize rdU c 5 = U at hsp hQ h2 h3
  obtain ⟨n, p0, e⟩ := U
  simp only at hsp hQ h2 h3
  obtain ⟨N, rfl⟩ := Int.eq_ofNat_of_zero_le hsp.2.1
  rw [Int.toNat_natCast] at hQ
  refine loopR.by (α := Nat × Int × List Int × List Rec) (fun p => [(7, .ref 704 0), (11, .osl 1000011 0 p.2.2.2.length), (12, .osl 1000012 0 p.2.2.1.length), (65, .c (.int .i64 N)), (66, .c (.int .i64 p.1))])
    (fun p => [(1000011, .row 8 (recs p.2.2.2)), (1000012, .row 1 (p.2.2.1.map (CV.int .i64))), (704, .obj [.c (.sl 1 (bys c)), .c (.int .i64 p.2.1), .c (.int .i64 0)])])
    (fun p => N - p.1) (fun p => p.1 ≤ N ∧ (0 ≤ p.2.1 ∧ p.2.1 ≤ c.length) ∧ p.2.2.1.length = p.1 ∧ p.2.2.2.length = p.1 ∧ (∀ r ∈ p.2.2.2, r.ok ∧ r.to.length ≤ 96) ∧ unpGo c (N - p.1) p.2.1 p.2.2.1 p.2.2.2 = unpGo c N p0 [] []) (0, p0, [], [])
    ⟨Nat.zero_le _, by simp only; omega, rfl, rfl, by simp, rfl⟩ ?_ ?_
  · intro Y hY
    simp only [go_sem, ↓reduceIte, Nat.reduceEqDiff, Nat.reduceMul, Nat.reduceAdd, Nat.reduceDiv, Nat.reduceSub, Nat.reduceLT, Nat.reduceLeDiff, Int.reduceLE, Int.reduceLT, Int.reduceToNat, Int.reduceEq, n37_0]
    exact ⟨by simp, hY⟩
  intro p hp Y hY
  obtain ⟨k, a, ps, l⟩ := p
  obtain ⟨hk, ha, hps, hl, hall, heq⟩ := hp
  simp only at hk ha hps hl hall heq
  unfold l37_0
  have hcut1 : List.take ps.length (ps.map (CV.int .i64)) = ps.map (CV.int .i64) := List.take_of_length_le (by simp)
  have hcut2 : List.take l.length (recs l) = recs l := List.take_of_length_le (by rw [recs_len]; omega)
  rcases Nat.lt_or_ge k N with hkN | hkN
  · rw [show N - k = (N - (k + 1)) + 1 by omega, unpGo] at heq
    have c65 := cw65 c a (by omega) ha
    obtain ⟨x1, x2, x3, x4⟩ := recS_spec c a ha
    have hsh : recC c a = zeroN ∨ recC c a = (recR c a).cv := by
      unfold recC
      split
      · exact .inl rfl
      · split
        · exact .inl rfl
        · exact .inr rfl
    generalize hS : recS c a = S at c65 x1 x4 heq
    obtain ⟨a', e'⟩ := S
    simp only at c65 x1 x4 heq
    simp only [go_sem, ↓reduceIte, Nat.reduceEqDiff, Nat.reduceMul, Nat.reduceAdd, Nat.reduceDiv, Nat.reduceSub, Nat.reduceLT, Nat.reduceLeDiff, Int.reduceLE, Int.reduceLT, Int.reduceToNat, Int.reduceEq, n37_0]
    refine ⟨fun _ => ⟨by omega, ?_⟩, fun h => by omega⟩
    by_cases he : e' = 0
    · subst he
      rw [if_neg (by simp)] at heq
      rw [x4 rfl] at c65
      refine callK_i ⟨[.cv (.agg [.int .i64 (recR c a).kind, .int .i64 (recR c a).lo, .int .i64 (recR c a).hi, .int .i64 (recR c a).n, .sl 1 (runes (recR c a).to), .str (recR c a).name, .str (recR c a).other, .flt (recR c a).weight])], [[.cv (.sl 1 (bys c)), .cv (.int .i64 a'), .cv (.int .i64 0)]]⟩ (fun _ => c65) ⟨by simp only [go_sem, ↓reduceIte, Nat.reduceEqDiff, Nat.reduceMul, Nat.reduceAdd, Nat.reduceDiv, Nat.reduceSub, Nat.reduceLT, Nat.reduceLeDiff, Int.reduceLE, Int.reduceLT, Int.reduceToNat, Int.reduceEq], .inl rfl, ⟨by simp only [go_sem, ↓reduceIte, Nat.reduceEqDiff, Nat.reduceMul, Nat.reduceAdd, Nat.reduceDiv, Nat.reduceSub, Nat.reduceLT, Nat.reduceLeDiff, Int.reduceLE, Int.reduceLT, Int.reduceToNat, Int.reduceEq], by simp, by simp, by simp⟩, ?_⟩
      simp only [go_sem, ↓reduceIte, Nat.reduceEqDiff, Nat.reduceMul, Nat.reduceAdd, Nat.reduceDiv, Nat.reduceSub, Nat.reduceLT, Nat.reduceLeDiff, Int.reduceLE, Int.reduceLT, Int.reduceToNat, Int.reduceEq, hcut1, hcut2]
      have hz : recs (l ++ [recR c a]) = recs l ++ [(recR c a).cv] := by simp [recs]
      have := hY (k + 1, a', ps ++ [a], l ++ [recR c a]) ⟨by simp only; omega, by simp only; exact x1, by simp only [List.length_append, List.length_singleton]; omega, by simp only [List.length_append, List.length_singleton]; omega, fun r hr => by
        rcases List.mem_append.1 hr with hr | hr
        · exact hall r hr
        · rw [List.mem_singleton.1 hr]; exact ⟨x3.1, x2⟩, heq⟩ (by simp only; omega)
      simp only [hz, List.length_append, List.length_singleton, List.map_append, List.map_cons, List.map_nil] at this
      rw [succ64 hkN (by omega)]
      exact ⟨by omega, by simp, this⟩
    · rw [if_pos he] at heq
      rw [← heq] at hQ
      rcases hsh with hsh | hsh
      · rw [hsh, zeroN] at c65
        refine callK_i ⟨[.cv (.agg [.int .i64 0, .int .i64 0, .int .i64 0, .int .i64 0, .nilsl, .str ⟨#[]⟩, .str ⟨#[]⟩, .flt 0])], [[.cv (.sl 1 (bys c)), .cv (.int .i64 a'), .cv (.int .i64 e')]]⟩ (fun _ => c65) ⟨by simp only [go_sem, ↓reduceIte, Nat.reduceEqDiff, Nat.reduceMul, Nat.reduceAdd, Nat.reduceDiv, Nat.reduceSub, Nat.reduceLT, Nat.reduceLeDiff, Int.reduceLE, Int.reduceLT, Int.reduceToNat, Int.reduceEq], .inl rfl, ⟨by simp only [go_sem, ↓reduceIte, Nat.reduceEqDiff, Nat.reduceMul, Nat.reduceAdd, Nat.reduceDiv, Nat.reduceSub, Nat.reduceLT, Nat.reduceLeDiff, Int.reduceLE, Int.reduceLT, Int.reduceToNat, Int.reduceEq], by simp, by simp, by simp⟩, ?_⟩
        simp only [go_sem, ↓reduceIte, Nat.reduceEqDiff, Nat.reduceMul, Nat.reduceAdd, Nat.reduceDiv, Nat.reduceSub, Nat.reduceLT, Nat.reduceLeDiff, Int.reduceLE, Int.reduceLT, Int.reduceToNat, Int.reduceEq, hcut1, hcut2]
        exact ⟨fun _ => hQ _ _ (.inl ⟨rfl, rfl⟩) rfl rfl, fun h => absurd h he⟩
      · rw [hsh] at c65
        refine callK_i ⟨[.cv (.agg [.int .i64 (recR c a).kind, .int .i64 (recR c a).lo, .int .i64 (recR c a).hi, .int .i64 (recR c a).n, .sl 1 (runes (recR c a).to), .str (recR c a).name, .str (recR c a).other, .flt (recR c a).weight])], [[.cv (.sl 1 (bys c)), .cv (.int .i64 a'), .cv (.int .i64 e')]]⟩ (fun _ => c65) ⟨by simp only [go_sem, ↓reduceIte, Nat.reduceEqDiff, Nat.reduceMul, Nat.reduceAdd, Nat.reduceDiv, Nat.reduceSub, Nat.reduceLT, Nat.reduceLeDiff, Int.reduceLE, Int.reduceLT, Int.reduceToNat, Int.reduceEq], .inl rfl, ⟨by simp only [go_sem, ↓reduceIte, Nat.reduceEqDiff, Nat.reduceMul, Nat.reduceAdd, Nat.reduceDiv, Nat.reduceSub, Nat.reduceLT, Nat.reduceLeDiff, Int.reduceLE, Int.reduceLT, Int.reduceToNat, Int.reduceEq], by simp, by simp, by simp⟩, ?_⟩
        simp only [go_sem, ↓reduceIte, Nat.reduceEqDiff, Nat.reduceMul, Nat.reduceAdd, Nat.reduceDiv, Nat.reduceSub, Nat.reduceLT, Nat.reduceLeDiff, Int.reduceLE, Int.reduceLT, Int.reduceToNat, Int.reduceEq, hcut1, hcut2]
        exact ⟨fun _ => hQ _ _ (.inl ⟨rfl, rfl⟩) rfl rfl, fun h => absurd h he⟩
  · have : k = N := by omega
    subst this
    rw [Nat.sub_self, unpGo] at heq
    rw [← heq] at hQ
    simp only at hQ
    rw [hcl] at ha
    have c30 := cw30 l (fun r hr => (hall r hr).1) (fun r hr => Nat.le_trans (hall r hr).2 (by decide))
    simp only [go_sem, ↓reduceIte, Nat.reduceEqDiff, Nat.reduceMul, Nat.reduceAdd, Nat.reduceDiv, Nat.reduceSub, Nat.reduceLT, Nat.reduceLeDiff, Int.reduceLE, Int.reduceLT, Int.reduceToNat, Int.reduceEq, n37_0, hcut2, hcl]
    refine ⟨fun h => by omega, fun _ => ⟨fun h5 => ?_, fun h5 => ?_⟩⟩
    · rw [if_pos h5] at hQ
      exact hQ _ _ (.inl ⟨rfl, rfl⟩) rfl rfl
    rw [if_neg (by omega)] at hQ
    refine callK_i ⟨[.cv (.int .i64 (checkP l).1), .cv (.int .i64 (checkP l).2)], []⟩ (fun _ => c30) ⟨by simp only [go_sem, ↓reduceIte, Nat.reduceEqDiff, Nat.reduceMul, Nat.reduceAdd, Nat.reduceDiv, Nat.reduceSub, Nat.reduceLT, Nat.reduceLeDiff, Int.reduceLE, Int.reduceLT, Int.reduceToNat, Int.reduceEq], .inr ⟨by simp [OC.scalar, CV.scalar], by simp⟩, ⟨by simp only [go_sem, ↓reduceIte, Nat.reduceEqDiff, Nat.reduceMul, Nat.reduceAdd, Nat.reduceDiv, Nat.reduceSub, Nat.reduceLT, Nat.reduceLeDiff, Int.reduceLE, Int.reduceLT, Int.reduceToNat, Int.reduceEq], by simp, by simp, by simp⟩, ?_⟩
    simp only [go_sem, ↓reduceIte, Nat.reduceEqDiff, Nat.reduceMul, Nat.reduceAdd, Nat.reduceDiv, Nat.reduceSub, Nat.reduceLT, Nat.reduceLeDiff, Int.reduceLE, Int.reduceLT, Int.reduceToNat, Int.reduceEq]
    refine ⟨fun h6 => ?_, fun h6 => ?_⟩
    · rw [if_pos h6] at hQ
      have hat := check_at (by omega) h6
      have ep : (ps.map (CV.int .i64)).getD (checkP l).1.toNat .undef = .int .i64 (ps.getD (checkP l).1.toNat 0) := by
        have : (checkP l).1.toNat < ps.length := by omega
        simp [List.getD_eq_getElem?_getD, this]
      rw [ep]
      exact ⟨by omega, hQ _ _ (.inl ⟨rfl, rfl⟩) rfl rfl⟩
    · rw [if_neg (by simpa using h6)] at hQ
      exact hQ _ _ (own_at rfl (by rw [recs_len]) rfl) rfl rfl
theorem cw37 (b : List UInt8) (hb : b.length < 1000000000000000) : CW Try.prog 37 [.cv (.sl 1 (bys b))] ⟨[.own 8 (recs (unpackF b).1), .cv (.int .i64 ((unpackF b).2.1)), .cv (.int .i64 ((unpackF b).2.2))], []⟩ :=
  top37 rfl rfl [] trivial (w37 b hb _ fun σ H h h' h'' => retO3 rfl h h' h'')
def l106_1 : IC := (.seq (.seq (.reg [⟨(some 99), 0, none, .mv (.t 7)⟩,
  ⟨(some 100), 0, none, .mv (.t 6)⟩,
  ⟨(some 101), 0, none, .bin .lss (.t 99) (.t 100)⟩,
  ⟨(some 102), 0, none, .mv (.t 101)⟩,
  ⟨(some 103), 0, (some (102, true)), .mv (.t 0)⟩,
  ⟨(some 104), 0, (some (102, true)), .nck (.t 103)⟩,
  ⟨(some 105), 0, (some (102, true)), .fa (.t 104) 2⟩,
  ⟨(some 106), 0, (some (102, true)), .ld (.t 105) none⟩,
  ⟨(some 107), 0, (some (102, true)), .bin .eql (.t 106) (.c (.int .i64 0))⟩,
  ⟨(some 108), 0, none, .pick (.t 102) (.t 107) (.c (.bool false))⟩]) (.cond (.t 108) .skip (.exit 3))) (.seq (.block 4 (.draw (.take 0 ⟨(some 111), 0, none, .fa (.t 3) 4⟩ (.take 1 ⟨(some 112), 0, none, .ld (.t 111) none⟩ (.take 2 ⟨(some 113), 0, none, .mv (.t 0)⟩ (.br 3 ⟨(some 114), 84, none, .call (.c (.fn 126)) [((.t 113), .ptr [none, none, none]), ((.c (.int .i64 1114111)), .plain)]⟩ [false, true, true] (.take 4 ⟨(some 115), 0, none, .conv .i32 (.t 114)⟩ (.br 5 ⟨(some 116), 94, none, .bsl 1 [(.t 115)]⟩ [false, true, true] (.br 6 ⟨(some 117), 95, none, .app (.t 112) (.t 116) 1 4 false⟩ [false, true] (.take 7 ⟨(some 118), 0, none, .fa (.t 3) 4⟩ (.br 8 ⟨none, 0, none, .st (.t 118) (.t 117) none⟩ [false, false] .done .no)) .no) .no)) .no)))))) (.reg [⟨(some 109), 0, none, .mv (.t 7)⟩,
  ⟨(some 110), 0, none, .bin .add (.t 109) (.c (.int .i64 1))⟩,
  ⟨(some 7), 0, none, .mv (.t 110)⟩])))
def n106_1 : Norm := ⟨[(0, .plain), (2, .plain), (3, .plain), (4, .plain), (5, .plain), (6, .plain), (7, .plain)], [(3000000, [.plain, .plain, .plain]), (64, [.plain, .plain, .plain, .plain, .plain, .plain, .plain, .plain]), (128, [.plain, .plain, .plain, .plain, .own 1 1000104, .plain, .plain, .plain])]⟩
def l106_0 : IC := (.seq (.seq (.reg [⟨(some 52), 0, none, .mv (.t 5)⟩,
  ⟨(some 53), 0, none, .mv (.t 4)⟩,
  ⟨(some 54), 0, none, .len true (.t 53)⟩,
  ⟨(some 55), 0, none, .bin .lss (.t 52) (.t 54)⟩]) (.cond (.t 55) .skip (.exit 0))) (.seq (.block 1 (.seq (.reg [⟨(some 58), 0, none, .mv (.t 4)⟩,
  ⟨(some 59), 0, none, .mv (.t 5)⟩,
  ⟨(some 60), 0, none, .sidx (.t 58) (.t 59)⟩]) (.block 2 (.seq (.reg [⟨(some 65), 0, none, .bin .eql (.t 60) (.c (.int .u8 83))⟩,
  ⟨(some 64), 0, none, .mv (.t 65)⟩]) (.cond (.t 64) (.seq (.reg [⟨(some 66), 0, none, .mv (.t 0)⟩,
  ⟨(some 67), 23, none, .call (.c (.fn 126)) [((.t 66), .ptr [none, none, none]), ((.c (.int .i64 1114111)), .plain)]⟩,
  ⟨(some 68), 0, none, .fa (.t 3) 1⟩,
  ⟨none, 0, none, .st (.t 68) (.t 67) none⟩]) (.draw (.take 0 ⟨(some 69), 0, none, .fa (.t 3) 1⟩ (.take 1 ⟨(some 70), 0, none, .ld (.t 69) none⟩ (.take 2 ⟨(some 71), 0, none, .mv (.t 0)⟩ (.br 3 ⟨(some 72), 33, none, .call (.c (.fn 126)) [((.t 71), .ptr [none, none, none]), ((.c (.int .i64 1114111)), .plain)]⟩ [false, true, true] (.take 4 ⟨(some 73), 0, none, .bin .add (.t 70) (.t 72)⟩ (.take 5 ⟨(some 74), 0, none, .fa (.t 3) 2⟩ (.br 6 ⟨none, 0, none, .st (.t 74) (.t 73) none⟩ [false, false, false, false] .done .no))) .no)))))) (.seq (.reg [⟨(some 76), 0, none, .bin .eql (.t 60) (.c (.int .u8 76))⟩,
  ⟨(some 75), 0, none, .mv (.t 76)⟩]) (.cond (.t 75) (.seq (.reg [⟨(some 77), 0, none, .mv (.t 0)⟩,
  ⟨(some 78), 43, none, .call (.c (.fn 126)) [((.t 77), .ptr [none, none, none]), ((.c (.int .i64 1114111)), .plain)]⟩,
  ⟨(some 79), 0, none, .fa (.t 3) 1⟩,
  ⟨none, 0, none, .st (.t 79) (.t 78) none⟩]) (.reg [⟨(some 80), 0, none, .fa (.t 3) 1⟩,
  ⟨(some 81), 0, none, .ld (.t 80) none⟩,
  ⟨(some 82), 0, none, .fa (.t 3) 2⟩,
  ⟨none, 0, none, .st (.t 82) (.t 81) none⟩])) (.seq (.reg [⟨(some 84), 0, none, .bin .eql (.t 60) (.c (.int .u8 78))⟩,
  ⟨(some 83), 0, none, .mv (.t 84)⟩]) (.cond (.t 83) (.reg [⟨(some 85), 0, none, .mv (.t 0)⟩,
  ⟨(some 86), 53, none, .call (.c (.fn 126)) [((.t 85), .ptr [none, none, none]), ((.c (.int .i64 1114111)), .plain)]⟩,
  ⟨(some 87), 0, none, .fa (.t 3) 3⟩,
  ⟨none, 0, none, .st (.t 87) (.t 86) none⟩]) (.seq (.reg [⟨(some 89), 0, none, .bin .eql (.t 60) (.c (.int .u8 84))⟩,
  ⟨(some 88), 0, none, .mv (.t 89)⟩]) (.cond (.t 88) (.reg [⟨(some 90), 0, none, .mv (.t 0)⟩,
  ⟨(some 91), 63, none, .call (.c (.fn 126)) [((.t 90), .ptr [none, none, none]), ((.c (.int .i64 1114111)), .plain)]⟩,
  ⟨(some 92), 0, none, .conv .i32 (.t 91)⟩,
  ⟨(some 93), 73, none, .bsl 1 [(.t 92)]⟩,
  ⟨(some 94), 0, none, .fa (.t 3) 4⟩,
  ⟨none, 0, none, .st (.t 94) (.t 93) none⟩]) (.seq (.reg [⟨(some 96), 0, none, .bin .eql (.t 60) (.c (.int .u8 120))⟩,
  ⟨(some 95), 0, none, .mv (.t 96)⟩]) (.cond (.t 95) (.seq (.reg [⟨(some 97), 0, none, .mv (.t 0)⟩,
  ⟨(some 98), 74, none, .call (.c (.fn 126)) [((.t 97), .ptr [none, none, none]), ((.c (.int .i64 24)), .plain)]⟩,
  ⟨(some 6), 0, none, .mv (.t 98)⟩]) (.seq (.reg [⟨(some 7), 0, none, .mv (.c (.int .i64 0))⟩]) (.block 3 (.loop n106_1 l106_1)))) (.seq (.reg [⟨(some 120), 0, none, .bin .eql (.t 60) (.c (.int .u8 110))⟩,
  ⟨(some 119), 0, none, .mv (.t 120)⟩]) (.cond (.t 119) (.reg [⟨(some 121), 0, none, .mv (.t 0)⟩,
  ⟨(some 122), 96, none, .call (.c (.fn 127)) [((.t 121), .ptr [none, none, none])]⟩,
  ⟨(some 123), 0, none, .fa (.t 3) 5⟩,
  ⟨none, 0, none, .st (.t 123) (.t 122) none⟩]) (.seq (.reg [⟨(some 125), 0, none, .bin .eql (.t 60) (.c (.int .u8 111))⟩,
  ⟨(some 124), 0, none, .mv (.t 125)⟩]) (.cond (.t 124) (.reg [⟨(some 126), 0, none, .mv (.t 0)⟩,
  ⟨(some 127), 106, none, .call (.c (.fn 127)) [((.t 126), .ptr [none, none, none])]⟩,
  ⟨(some 128), 0, none, .fa (.t 3) 6⟩,
  ⟨none, 0, none, .st (.t 128) (.t 127) none⟩]) (.reg [⟨(some 61), 0, none, .mv (.t 0)⟩,
  ⟨(some 62), 116, none, .call (.c (.fn 128)) [((.t 61), .ptr [none, none, none])]⟩,
  ⟨(some 63), 0, none, .fa (.t 3) 7⟩,
  ⟨none, 0, none, .st (.t 63) (.t 62) none⟩])))))))))))))))))) (.reg [⟨(some 56), 0, none, .mv (.t 5)⟩,
  ⟨(some 57), 0, none, .bin .add (.t 56) (.c (.int .i64 1))⟩,
  ⟨(some 5), 0, none, .mv (.t 57)⟩])))
def n106_0 : Norm := ⟨[(0, .plain), (2, .plain), (3, .plain), (4, .plain), (5, .plain)], [(3000000, [.plain, .plain, .plain]), (64, [.plain, .plain, .plain, .plain, .plain, .plain, .plain, .plain]), (128, [.plain, .plain, .plain, .plain, .own 1 1000104, .plain, .plain, .plain])]⟩
def b106 : IC := (.seq (.reg [⟨(some 2), 1, none, .alloc [(.int .i64 0), (.int .i64 0), (.int .i64 0), (.int .i64 0), .nilsl, (.str ⟨#[]⟩), (.str ⟨#[]⟩), (.flt 0)]⟩]) (.seq (.reg [⟨(some 3), 2, none, .alloc [(.int .i64 0), (.int .i64 0), (.int .i64 0), (.int .i64 0), .nilsl, (.str ⟨#[]⟩), (.str ⟨#[]⟩), (.flt 0)]⟩]) (.seq (.seq (.draw (.take 0 ⟨(some 8), 0, none, .mv (.t 0)⟩ (.take 1 ⟨(some 9), 0, none, .nck (.t 8)⟩ (.take 2 ⟨(some 10), 0, none, .fa (.t 9) 1⟩ (.take 3 ⟨(some 11), 0, none, .ld (.t 10) none⟩ (.take 4 ⟨(some 12), 0, none, .mv (.t 0)⟩ (.take 5 ⟨(some 13), 0, none, .nck (.t 12)⟩ (.take 6 ⟨(some 14), 0, none, .fa (.t 13) 0⟩ (.take 7 ⟨(some 15), 0, none, .ld (.t 14) none⟩ (.take 8 ⟨(some 16), 0, none, .len false (.t 15)⟩ (.take 9 ⟨(some 17), 0, none, .bin .eql (.t 11) (.t 16)⟩ .done))))))))))) (.cond (.t 17) (.seq (.reg [⟨(some 18), 0, none, .mv (.t 0)⟩,
  ⟨(some 19), 0, none, .nck (.t 18)⟩,
  ⟨(some 20), 0, none, .fa (.t 19) 2⟩,
  ⟨none, 0, none, .st (.t 20) (.c (.int .i64 10)) none⟩]) (.seq (.reg [⟨(some 21), 0, none, .ld (.t 3) (some 8)⟩,
  ⟨none, 0, none, .st (.t 2) (.t 21) (some 8)⟩]) .ret)) .skip)) (.seq (.draw (.take 0 ⟨(some 22), 0, none, .mv (.t 0)⟩ (.take 1 ⟨(some 23), 0, none, .nck (.t 22)⟩ (.take 2 ⟨(some 24), 0, none, .fa (.t 23) 0⟩ (.take 3 ⟨(some 25), 0, none, .ld (.t 24) none⟩ (.take 4 ⟨(some 26), 0, none, .mv (.t 0)⟩ (.take 5 ⟨(some 27), 0, none, .nck (.t 26)⟩ (.take 6 ⟨(some 28), 0, none, .fa (.t 27) 1⟩ (.take 7 ⟨(some 29), 0, none, .ld (.t 28) none⟩ (.take 8 ⟨(some 30), 0, none, .ia (.t 25) (.t 29) 1⟩ (.take 9 ⟨(some 31), 0, none, .ld (.t 30) none⟩ (.take 10 ⟨(some 32), 0, none, .conv .i64 (.t 31)⟩ (.take 11 ⟨(some 33), 0, none, .fa (.t 3) 0⟩ (.br 12 ⟨none, 0, none, .st (.t 33) (.t 32) none⟩ [false, false, false, false, false, false, false, false, false, false, false, false] .done .no)))))))))))))) (.seq (.seq (.reg [⟨(some 34), 0, none, .fa (.t 3) 0⟩,
  ⟨(some 35), 0, none, .ld (.t 34) none⟩,
  ⟨(some 36), 3, none, .call (.c (.fn 67)) [((.t 35), .plain)]⟩,
  ⟨(some 37), 0, none, .bin .eql (.t 36) (.c (.int .i64 0))⟩]) (.cond (.t 37) (.seq (.reg [⟨(some 38), 0, none, .mv (.t 0)⟩,
  ⟨(some 39), 0, none, .nck (.t 38)⟩,
  ⟨(some 40), 0, none, .fa (.t 39) 2⟩,
  ⟨none, 0, none, .st (.t 40) (.c (.int .i64 60)) none⟩]) (.seq (.reg [⟨(some 41), 0, none, .ld (.t 3) (some 8)⟩,
  ⟨none, 0, none, .st (.t 2) (.t 41) (some 8)⟩]) .ret)) .skip)) (.seq (.reg [⟨(some 42), 0, none, .mv (.t 0)⟩,
  ⟨(some 43), 0, none, .nck (.t 42)⟩,
  ⟨(some 44), 0, none, .fa (.t 43) 1⟩,
  ⟨(some 45), 0, none, .ld (.t 44) none⟩,
  ⟨(some 46), 0, none, .bin .add (.t 45) (.c (.int .i64 1))⟩,
  ⟨(some 47), 0, none, .nck (.t 42)⟩,
  ⟨(some 48), 0, none, .fa (.t 47) 1⟩,
  ⟨none, 0, none, .st (.t 48) (.t 46) none⟩]) (.seq (.reg [⟨(some 49), 0, none, .fa (.t 3) 0⟩,
  ⟨(some 50), 0, none, .ld (.t 49) none⟩,
  ⟨(some 51), 13, none, .call (.c (.fn 102)) [((.t 50), .plain)]⟩,
  ⟨(some 4), 0, none, .mv (.t 51)⟩]) (.seq (.seq (.reg [⟨(some 5), 0, none, .mv (.c (.int .i64 0))⟩]) (.block 0 (.loop n106_0 l106_0))) (.seq (.pubc 3 4 (.reg [⟨(some 129), 0, none, .ld (.t 3) (some 8)⟩,
  ⟨none, 0, none, .st (.t 2) (.t 129) (some 8)⟩])) .ret)))))))))
def rs106 : List (Nat × Option Nat × Mode) := [(2, some 8, .plain)]
theorem chk106 : chkC Try.prog Try.f106.ntmps b106 (Try.f106.body.getD .skip) = true := by decide +kernel
theorem top106 {args : List Arg} {out : Out} (ha : args.length.ble Try.f106.ntmps = true) (h8 : args.length.ble 8 = true) (mss : List (List (Option Nat))) (hb : backOK args out.back)
    (hw : rnC Try.prog b106 (topQ rs106 args mss out) (slotsOf (argsAV argBase args 0) 0) (argsOb argBase args 0)) : CW Try.prog 106 args out :=
  CW.of Try.func106 rs106 mss (by decide +kernel) (by decide +kernel) (by decide +kernel) ha h8 chk106 hb hw
def lisR8 (b : List UInt8) : Nat → (Int × Int) → List Int → (Int × Int) × List Int
  | 0, s, to => (s, to)
  | k + 1, s, to => if s.2 ≠ 0 then (s, to) else lisR8 b k (numR b 1114111 s).2 (to ++ [IntKind.i32.wrap (numR b 1114111 s).1])
def ltrF (c : UInt8) (b : List UInt8) (s : Int × Int) (r : Rec) : (Int × Int) × Rec :=
  if c = 83 then ((numR b 1114111 (numR b 1114111 s).2).2, { r with lo := (numR b 1114111 s).1, hi := IntKind.i64.wrap ((numR b 1114111 s).1 + (numR b 1114111 (numR b 1114111 s).2).1) }) else
  if c = 76 then ((numR b 1114111 s).2, { r with lo := (numR b 1114111 s).1, hi := (numR b 1114111 s).1 }) else
  if c = 78 then ((numR b 1114111 s).2, { r with n := (numR b 1114111 s).1 }) else
  if c = 84 then ((numR b 1114111 s).2, { r with to := [IntKind.i32.wrap (numR b 1114111 s).1] }) else
  if c = 120 then ((lisR8 b (numR b 24 s).1.toNat (numR b 24 s).2 r.to).1, { r with to := (lisR8 b (numR b 24 s).1.toNat (numR b 24 s).2 r.to).2 }) else
  if c = 110 then ((textP b s).2, { r with name := (textP b s).1 }) else
  if c = 111 then ((textP b s).2, { r with other := (textP b s).1 }) else ((fltP b s).2, { r with weight := (fltP b s).1 })
theorem numR_at {b : List UInt8} {most : Int} {s : Int × Int} (hs : 0 ≤ s.1 ∧ s.1 ≤ b.length) : 0 ≤ (numR b most s).2.1 ∧ (numR b most s).2.1 ≤ b.length := by
  have := numP_at (most := most) hs
  unfold numR
  split <;> exact this
theorem numR_val {b : List UInt8} {most : Int} {s : Int × Int} (hm : 0 ≤ most) : 0 ≤ (numR b most s).1 ∧ (numR b most s).1 ≤ most := by
  have := @numP_val b most s
  unfold numR
  split
  · exact ⟨Int.le_refl _, hm⟩
  · rename_i h
    exact ⟨this.1, this.2.2 (Decidable.of_not_not h) hm⟩
theorem lisR8_at {b : List UInt8} : ∀ (k : Nat) (s : Int × Int) (to : List Int), (0 ≤ s.1 ∧ s.1 ≤ b.length) → (0 ≤ (lisR8 b k s to).1.1 ∧ (lisR8 b k s to).1.1 ≤ b.length) ∧ (lisR8 b k s to).2.length ≤ to.length + k
  | 0, s, to, hs => ⟨hs, Nat.le_refl _⟩
  | k + 1, s, to, hs => by
    rw [lisR8]
    split
    · exact ⟨hs, Nat.le_add_right _ _⟩
    · have := lisR8_at k (numR b 1114111 s).2 (to ++ [IntKind.i32.wrap (numR b 1114111 s).1]) (numR_at hs)
      refine ⟨this.1, ?_⟩
      have h2 := this.2
      simp only [List.length_append, List.length_singleton] at h2
      omega
theorem ltrF_at (c : UInt8) (b : List UInt8) (s : Int × Int) (r : Rec) (hs : 0 ≤ s.1 ∧ s.1 ≤ b.length) :
    (0 ≤ (ltrF c b s r).1.1 ∧ (ltrF c b s r).1.1 ≤ b.length) ∧ (ltrF c b s r).2.to.length ≤ r.to.length + 24 := by
  have hn := numR_at (most := 1114111) hs
  unfold ltrF
  split
  · exact ⟨numR_at hn, Nat.le_add_right _ _⟩
  · split
    · exact ⟨hn, Nat.le_add_right _ _⟩
    · split
      · exact ⟨hn, Nat.le_add_right _ _⟩
      · split
        · exact ⟨hn, by show 1 ≤ _; omega⟩
        · split
          · have := lisR8_at (b := b) (numR b 24 s).1.toNat (numR b 24 s).2 r.to (numR_at hs)
            have h24 := numR_val (b := b) (most := 24) (s := s) (by decide)
            exact ⟨this.1, by have := this.2; simp only; omega⟩
          · split
            · exact ⟨textP_at hs, Nat.le_add_right _ _⟩
            · split
              · exact ⟨textP_at hs, Nat.le_add_right _ _⟩
              · exact ⟨fltP_at hs, Nat.le_add_right _ _⟩
def ltrsF (b : List UInt8) : List UInt8 → (Int × Int) → Rec → (Int × Int) × Rec
  | [], s, r => (s, r)
  | c :: l, s, r => ltrsF b l (ltrF c b s r).1 (ltrF c b s r).2
def zobj (k : Int) : LObj := .obj [.c (.int .i64 k), .c (.int .i64 0), .c (.int .i64 0), .c (.int .i64 0), .c .nilsl, .c (.str ⟨#[]⟩), .c (.str ⟨#[]⟩), .c (.flt 0)]
theorem famK_nil {k : Int} (h : famK k = 0) : parts8 k = [] := parts8_none (by unfold famK at h; (repeat' split at h) <;> omega)
theorem famK_ne {k : Int} (h : ¬famK k = 0) : parts8 k ≠ [] := fun hp => by
  have := parts8_nil hp
  apply h
  unfold famK
  (repeat' split) <;> omega
theorem strOf_size (l : List UInt8) : (strOf l).size = l.length := by rw [← size_len, strOf_list]
theorem w106 (b : List UInt8) (a : Int) (hb : b.length < 1000000000000000) (hs : 0 ≤ a ∧ a ≤ b.length) (Q : Ex → Slots → LH → Prop)
    (hend : a = b.length → ∀ σ H, Slots.get σ 2 = .ref 64 0 → LH.get H 64 = some (zobj 0) → LH.get H 3000000 = some (rdH b (a, 10)) → Q .ret σ H)
    (hkind : a < b.length → parts8 (kindAt b a) = [] → ∀ σ H, Slots.get σ 2 = .ref 64 0 → LH.get H 64 = some (zobj (kindAt b a)) → LH.get H 3000000 = some (rdH b (a, 60)) → Q .ret σ H)
    (hok : a < b.length → parts8 (kindAt b a) ≠ [] → ∀ σ H, Slots.get σ 2 = .ref 64 0 →
      LH.get H 64 = some (robj (ltrsF b (formL (kindAt b a)) (a + 1, 0) (zeroR (kindAt b a))).2) → LH.get H 3000000 = some (rdH b (ltrsF b (formL (kindAt b a)) (a + 1, 0) (zeroR (kindAt b a))).1) → Q .ret σ H) :
    rnC Try.prog b106 Q [(0, .ref 3000000 0)] [(3000000, rdH b (a, 0))] := by
  unfold b106 rdH
  rcases Int.lt_or_eq_of_le hs.2 with hlt | heq
  · have eb := bys_at (l := b) (k := a.toNat) (by omega)
    have hk : kindAt b a = (b[a.toNat]'(by omega)).toNat := by unfold kindAt; rw [List.getD_eq_getElem?_getD, List.getElem?_eq_getElem (by omega)]; rfl
    have hc := (b[a.toNat]'(by omega)).toNat_lt
    have e1 : IntKind.i64.wrap ((b[a.toNat]'(by omega)).toNat : Int) = kindAt b a := by rw [hk, wrap_i64]; omega
    simp only [go_sem, ↓reduceIte, Nat.reduceEqDiff, Nat.reduceMul, Nat.reduceAdd, Nat.reduceDiv, Nat.reduceSub, Nat.reduceLT, Nat.reduceLeDiff, Int.reduceLE, Int.reduceLT, Int.reduceToNat, Int.reduceEq, eb, e1]
    refine ⟨fun h => by omega, fun _ => ⟨by omega, ?_⟩⟩
    clear e1 eb
    refine callK_1 _ (fun _ => cw67 (kindAt b a)) (by simp only [go_sem, ↓reduceIte, Nat.reduceEqDiff, Nat.reduceMul, Nat.reduceAdd, Nat.reduceDiv, Nat.reduceSub, Nat.reduceLT, Nat.reduceLeDiff, Int.reduceLE, Int.reduceLT, Int.reduceToNat, Int.reduceEq]) rfl rfl ?_
    simp only [go_sem, ↓reduceIte, Nat.reduceEqDiff, Nat.reduceMul, Nat.reduceAdd, Nat.reduceDiv, Nat.reduceSub, Nat.reduceLT, Nat.reduceLeDiff, Int.reduceLE, Int.reduceLT, Int.reduceToNat, Int.reduceEq]
    repeat (refine ⟨by (first | omega | (intro h1 h2; exact ⟨h1, h2⟩) | (intro h1; omega) | (intro h1; exact h1) | trivial), ?_⟩)
    refine ⟨fun hf => hkind hlt (famK_nil hf) _ _ rfl rfl rfl, fun hf => ?_⟩
    have hok' := hok hlt (famK_ne hf)
    refine callK_1 _ (fun _ => cw102 (kindAt b a)) (by simp only [go_sem, ↓reduceIte, Nat.reduceEqDiff, Nat.reduceMul, Nat.reduceAdd, Nat.reduceDiv, Nat.reduceSub, Nat.reduceLT, Nat.reduceLeDiff, Int.reduceLE, Int.reduceLT, Int.reduceToNat, Int.reduceEq]) rfl rfl ?_
    simp only [go_sem, ↓reduceIte, Nat.reduceEqDiff, Nat.reduceMul, Nat.reduceAdd, Nat.reduceDiv, Nat.reduceSub, Nat.reduceLT, Nat.reduceLeDiff, Int.reduceLE, Int.reduceLT, Int.reduceToNat, Int.reduceEq]
    repeat (refine ⟨by (first | omega | (intro h1 h2; exact ⟨h1, h2⟩) | (intro h1; omega) | (intro h1; exact h1) | trivial), ?_⟩)
    --LOOP
    have e0 : IntKind.i64.wrap (a + 1) = a + 1 := by rw [wrap_i64]; omega
    rw [e0]
    clear hend hkind hok
    generalize hF : formL (kindAt b a) = F at *
    have hF4 : F.length ≤ 4 := by rw [← hF]; unfold formL; (repeat' split) <;> simp
    refine loopR.by (α := Nat × (Int × Int) × Rec) (fun p => [(0, .ref 3000000 0), (2, .ref 64 0), (3, .ref 128 0), (4, .c (.str (strOf F))), (5, .c (.int .i64 p.1))])
      (fun p => [(3000000, .obj [.c (.sl 1 (bys b)), .c (.int .i64 p.2.1.1), .c (.int .i64 p.2.1.2)]), (64, zobj 0),
        (128, .obj [.c (.int .i64 p.2.2.kind), .c (.int .i64 p.2.2.lo), .c (.int .i64 p.2.2.hi), .c (.int .i64 p.2.2.n), .osl 1000104 0 p.2.2.to.length, .c (.str p.2.2.name), .c (.str p.2.2.other), .c (.flt p.2.2.weight)]), (1000104, .row 1 (runes p.2.2.to))])
      (fun p => F.length - p.1) (fun p => p.1 ≤ F.length ∧ (0 ≤ p.2.1.1 ∧ p.2.1.1 ≤ b.length) ∧ p.2.2.to.length ≤ 24 * p.1 ∧ ltrsF b (F.drop p.1) p.2.1 p.2.2 = ltrsF b F (a + 1, 0) (zeroR (kindAt b a))) (0, (a + 1, 0), zeroR (kindAt b a))
      ⟨Nat.zero_le _, by simp only; omega, Nat.le_refl _, rfl⟩ ?_ ?_
    · intro Y hY
      simp only [go_sem, ↓reduceIte, Nat.reduceEqDiff, Nat.reduceMul, Nat.reduceAdd, Nat.reduceDiv, Nat.reduceSub, Nat.reduceLT, Nat.reduceLeDiff, Int.reduceLE, Int.reduceLT, Int.reduceToNat, Int.reduceEq, n106_0]
      exact ⟨by simp, hY⟩
    intro p hp Y hY
    obtain ⟨i, s, r⟩ := p
    obtain ⟨hi, hs2, hto, heq⟩ := hp
    simp only at hi hs2 hto heq
    unfold l106_0 zobj
    rcases Nat.lt_or_ge i F.length with hil | hig
    · have hd : F.drop i = F[i] :: F.drop (i + 1) := List.drop_eq_getElem_cons hil
      rw [hd, ltrsF] at heq
      have e8 : u8 (F.getD i 0) = .int .u8 (F[i].toNat : Int) := by rw [List.getD_eq_getElem?_getD, List.getElem?_eq_getElem hil]; rfl
      obtain ⟨q1, q2⟩ := ltrF_at F[i] b s r hs2
      generalize F[i] = c at e8 heq q1 q2
      simp only [go_sem, ↓reduceIte, Nat.reduceEqDiff, Nat.reduceMul, Nat.reduceAdd, Nat.reduceDiv, Nat.reduceSub, Nat.reduceLT, Nat.reduceLeDiff, Int.reduceLE, Int.reduceLT, Int.reduceToNat, Int.reduceEq, n106_0, e8, strOf_size]
      refine ⟨fun _ => ⟨by omega, ?_⟩, fun h => by omega⟩
      refine ⟨fun h0 => ?_, fun h0 => ?_⟩
      · rw [ltrF, if_pos (UInt8.toNat_inj.1 (by show _ = 83; omega))] at heq q1 q2
        refine callK_i ⟨[.cv (.int .i64 (numR b 1114111 s).1)], [[.cv (.sl 1 (bys b)), .cv (.int .i64 (numR b 1114111 s).2.1), .cv (.int .i64 (numR b 1114111 s).2.2)]]⟩ (fun _ => cw126 b 1114111 s hb hs2) ⟨by simp only [go_sem, ↓reduceIte, Nat.reduceEqDiff, Nat.reduceMul, Nat.reduceAdd, Nat.reduceDiv, Nat.reduceSub, Nat.reduceLT, Nat.reduceLeDiff, Int.reduceLE, Int.reduceLT, Int.reduceToNat, Int.reduceEq], .inl rfl, ⟨by simp only [go_sem, ↓reduceIte, Nat.reduceEqDiff, Nat.reduceMul, Nat.reduceAdd, Nat.reduceDiv, Nat.reduceSub, Nat.reduceLT, Nat.reduceLeDiff, Int.reduceLE, Int.reduceLT, Int.reduceToNat, Int.reduceEq], by simp, by simp, by simp⟩, ?_⟩
        simp only [go_sem, ↓reduceIte, Nat.reduceEqDiff, Nat.reduceMul, Nat.reduceAdd, Nat.reduceDiv, Nat.reduceSub, Nat.reduceLT, Nat.reduceLeDiff, Int.reduceLE, Int.reduceLT, Int.reduceToNat, Int.reduceEq]
        refine callK_i ⟨[.cv (.int .i64 (numR b 1114111 (numR b 1114111 s).2).1)], [[.cv (.sl 1 (bys b)), .cv (.int .i64 (numR b 1114111 (numR b 1114111 s).2).2.1), .cv (.int .i64 (numR b 1114111 (numR b 1114111 s).2).2.2)]]⟩ (fun _ => cw126 b 1114111 (numR b 1114111 s).2 hb (numR_at hs2)) ⟨by simp only [go_sem, ↓reduceIte, Nat.reduceEqDiff, Nat.reduceMul, Nat.reduceAdd, Nat.reduceDiv, Nat.reduceSub, Nat.reduceLT, Nat.reduceLeDiff, Int.reduceLE, Int.reduceLT, Int.reduceToNat, Int.reduceEq], .inl rfl, ⟨by simp only [go_sem, ↓reduceIte, Nat.reduceEqDiff, Nat.reduceMul, Nat.reduceAdd, Nat.reduceDiv, Nat.reduceSub, Nat.reduceLT, Nat.reduceLeDiff, Int.reduceLE, Int.reduceLT, Int.reduceToNat, Int.reduceEq], by simp, by simp, by simp⟩, ?_⟩
        simp only [go_sem, ↓reduceIte, Nat.reduceEqDiff, Nat.reduceMul, Nat.reduceAdd, Nat.reduceDiv, Nat.reduceSub, Nat.reduceLT, Nat.reduceLeDiff, Int.reduceLE, Int.reduceLT, Int.reduceToNat, Int.reduceEq]
        rw [succ64 hil (by omega)]
        exact ⟨by simp, hY (i + 1, (numR b 1114111 (numR b 1114111 s).2).2, { r with lo := (numR b 1114111 s).1, hi := IntKind.i64.wrap ((numR b 1114111 s).1 + (numR b 1114111 (numR b 1114111 s).2).1) }) ⟨hil, q1, Nat.le_trans q2 (by omega), heq⟩ (by simp only; omega)⟩
      refine ⟨fun h1 => ?_, fun h1 => ?_⟩
      · rw [ltrF, if_neg (by intro h; rw [h] at h0; exact h0 (by decide)), if_pos (UInt8.toNat_inj.1 (by show _ = 76; omega))] at heq q1 q2
        refine callK_i ⟨[.cv (.int .i64 (numR b 1114111 s).1)], [[.cv (.sl 1 (bys b)), .cv (.int .i64 (numR b 1114111 s).2.1), .cv (.int .i64 (numR b 1114111 s).2.2)]]⟩ (fun _ => cw126 b 1114111 s hb hs2) ⟨by simp only [go_sem, ↓reduceIte, Nat.reduceEqDiff, Nat.reduceMul, Nat.reduceAdd, Nat.reduceDiv, Nat.reduceSub, Nat.reduceLT, Nat.reduceLeDiff, Int.reduceLE, Int.reduceLT, Int.reduceToNat, Int.reduceEq], .inl rfl, ⟨by simp only [go_sem, ↓reduceIte, Nat.reduceEqDiff, Nat.reduceMul, Nat.reduceAdd, Nat.reduceDiv, Nat.reduceSub, Nat.reduceLT, Nat.reduceLeDiff, Int.reduceLE, Int.reduceLT, Int.reduceToNat, Int.reduceEq], by simp, by simp, by simp⟩, ?_⟩
        simp only [go_sem, ↓reduceIte, Nat.reduceEqDiff, Nat.reduceMul, Nat.reduceAdd, Nat.reduceDiv, Nat.reduceSub, Nat.reduceLT, Nat.reduceLeDiff, Int.reduceLE, Int.reduceLT, Int.reduceToNat, Int.reduceEq]
        rw [succ64 hil (by omega)]
        exact ⟨by simp, hY (i + 1, (numR b 1114111 s).2, { r with lo := (numR b 1114111 s).1, hi := (numR b 1114111 s).1 }) ⟨hil, q1, Nat.le_trans q2 (by omega), heq⟩ (by simp only; omega)⟩
      refine ⟨fun h2 => ?_, fun h2 => ?_⟩
      · rw [ltrF, if_neg (by intro h; rw [h] at h0; exact h0 (by decide)), if_neg (by intro h; rw [h] at h1; exact h1 (by decide)), if_pos (UInt8.toNat_inj.1 (by show _ = 78; omega))] at heq q1 q2
        refine callK_i ⟨[.cv (.int .i64 (numR b 1114111 s).1)], [[.cv (.sl 1 (bys b)), .cv (.int .i64 (numR b 1114111 s).2.1), .cv (.int .i64 (numR b 1114111 s).2.2)]]⟩ (fun _ => cw126 b 1114111 s hb hs2) ⟨by simp only [go_sem, ↓reduceIte, Nat.reduceEqDiff, Nat.reduceMul, Nat.reduceAdd, Nat.reduceDiv, Nat.reduceSub, Nat.reduceLT, Nat.reduceLeDiff, Int.reduceLE, Int.reduceLT, Int.reduceToNat, Int.reduceEq], .inl rfl, ⟨by simp only [go_sem, ↓reduceIte, Nat.reduceEqDiff, Nat.reduceMul, Nat.reduceAdd, Nat.reduceDiv, Nat.reduceSub, Nat.reduceLT, Nat.reduceLeDiff, Int.reduceLE, Int.reduceLT, Int.reduceToNat, Int.reduceEq], by simp, by simp, by simp⟩, ?_⟩
        simp only [go_sem, ↓reduceIte, Nat.reduceEqDiff, Nat.reduceMul, Nat.reduceAdd, Nat.reduceDiv, Nat.reduceSub, Nat.reduceLT, Nat.reduceLeDiff, Int.reduceLE, Int.reduceLT, Int.reduceToNat, Int.reduceEq]
        rw [succ64 hil (by omega)]
        exact ⟨by simp, hY (i + 1, (numR b 1114111 s).2, { r with n := (numR b 1114111 s).1 }) ⟨hil, q1, Nat.le_trans q2 (by omega), heq⟩ (by simp only; omega)⟩
      refine ⟨fun h3 => ?_, fun h3 => ?_⟩
      · rw [ltrF, if_neg (by intro h; rw [h] at h0; exact h0 (by decide)), if_neg (by intro h; rw [h] at h1; exact h1 (by decide)), if_neg (by intro h; rw [h] at h2; exact h2 (by decide)), if_pos (UInt8.toNat_inj.1 (by show _ = 84; omega))] at heq q1 q2
        refine callK_i ⟨[.cv (.int .i64 (numR b 1114111 s).1)], [[.cv (.sl 1 (bys b)), .cv (.int .i64 (numR b 1114111 s).2.1), .cv (.int .i64 (numR b 1114111 s).2.2)]]⟩ (fun _ => cw126 b 1114111 s hb hs2) ⟨by simp only [go_sem, ↓reduceIte, Nat.reduceEqDiff, Nat.reduceMul, Nat.reduceAdd, Nat.reduceDiv, Nat.reduceSub, Nat.reduceLT, Nat.reduceLeDiff, Int.reduceLE, Int.reduceLT, Int.reduceToNat, Int.reduceEq], .inl rfl, ⟨by simp only [go_sem, ↓reduceIte, Nat.reduceEqDiff, Nat.reduceMul, Nat.reduceAdd, Nat.reduceDiv, Nat.reduceSub, Nat.reduceLT, Nat.reduceLeDiff, Int.reduceLE, Int.reduceLT, Int.reduceToNat, Int.reduceEq], by simp, by simp, by simp⟩, ?_⟩
        simp only [go_sem, ↓reduceIte, Nat.reduceEqDiff, Nat.reduceMul, Nat.reduceAdd, Nat.reduceDiv, Nat.reduceSub, Nat.reduceLT, Nat.reduceLeDiff, Int.reduceLE, Int.reduceLT, Int.reduceToNat, Int.reduceEq]
        rw [succ64 hil (by omega)]
        exact ⟨by simp, hY (i + 1, (numR b 1114111 s).2, { r with to := [IntKind.i32.wrap (numR b 1114111 s).1] }) ⟨hil, q1, Nat.le_trans q2 (by omega), heq⟩ (by simp only; omega)⟩
      refine ⟨fun h4 => ?_, fun h4 => ?_⟩
      · rw [ltrF, if_neg (by intro h; rw [h] at h0; exact h0 (by decide)), if_neg (by intro h; rw [h] at h1; exact h1 (by decide)), if_neg (by intro h; rw [h] at h2; exact h2 (by decide)), if_neg (by intro h; rw [h] at h3; exact h3 (by decide)), if_pos (UInt8.toNat_inj.1 (by show _ = 120; omega))] at heq q1 q2
        refine callK_i ⟨[.cv (.int .i64 (numR b 24 s).1)], [[.cv (.sl 1 (bys b)), .cv (.int .i64 (numR b 24 s).2.1), .cv (.int .i64 (numR b 24 s).2.2)]]⟩ (fun _ => cw126 b 24 s hb hs2) ⟨by simp only [go_sem, ↓reduceIte, Nat.reduceEqDiff, Nat.reduceMul, Nat.reduceAdd, Nat.reduceDiv, Nat.reduceSub, Nat.reduceLT, Nat.reduceLeDiff, Int.reduceLE, Int.reduceLT, Int.reduceToNat, Int.reduceEq], .inl rfl, ⟨by simp only [go_sem, ↓reduceIte, Nat.reduceEqDiff, Nat.reduceMul, Nat.reduceAdd, Nat.reduceDiv, Nat.reduceSub, Nat.reduceLT, Nat.reduceLeDiff, Int.reduceLE, Int.reduceLT, Int.reduceToNat, Int.reduceEq], by simp, by simp, by simp⟩, ?_⟩
        simp only [go_sem, ↓reduceIte, Nat.reduceEqDiff, Nat.reduceMul, Nat.reduceAdd, Nat.reduceDiv, Nat.reduceSub, Nat.reduceLT, Nat.reduceLeDiff, Int.reduceLE, Int.reduceLT, Int.reduceToNat, Int.reduceEq]
        have v24 := numR_val (b := b) (most := 24) (s := s) (by decide)
        have hat := numR_at (most := 24) hs2
        generalize numR b 24 s = M at v24 hat heq q1 q2
        obtain ⟨n, s1⟩ := M
        simp only at v24 hat heq q1 q2
        refine loopR.by (α := Nat × (Int × Int) × List Int) (fun p => [(0, .ref 3000000 0), (2, .ref 64 0), (3, .ref 128 0), (4, .c (.str (strOf F))), (5, .c (.int .i64 i)), (6, .c (.int .i64 n)), (7, .c (.int .i64 p.1))])
          (fun p => [(3000000, .obj [.c (.sl 1 (bys b)), .c (.int .i64 p.2.1.1), .c (.int .i64 p.2.1.2)]), (64, zobj 0), (128, .obj [.c (.int .i64 r.kind), .c (.int .i64 r.lo), .c (.int .i64 r.hi), .c (.int .i64 r.n), .osl 1000104 0 p.2.2.length, .c (.str r.name), .c (.str r.other), .c (.flt r.weight)]), (1000104, .row 1 (runes p.2.2))])
          (fun p => n.toNat - p.1) (fun p => p.1 ≤ n.toNat ∧ p.2.2.length = r.to.length + p.1 ∧ (0 ≤ p.2.1.1 ∧ p.2.1.1 ≤ b.length) ∧ lisR8 b (n.toNat - p.1) p.2.1 p.2.2 = lisR8 b n.toNat s1 r.to) (0, s1, r.to) ⟨Nat.zero_le _, rfl, hat, rfl⟩ ?_ ?_
        · intro Z hZ
          simp only [go_sem, ↓reduceIte, Nat.reduceEqDiff, Nat.reduceMul, Nat.reduceAdd, Nat.reduceDiv, Nat.reduceSub, Nat.reduceLT, Nat.reduceLeDiff, Int.reduceLE, Int.reduceLT, Int.reduceToNat, Int.reduceEq, n106_1]
          exact ⟨by simp, hZ⟩
        intro p hp Z hZ
        obtain ⟨k, s2, to⟩ := p
        obtain ⟨hk, hlen, hat2, heq2⟩ := hp
        simp only at hk hlen hat2 heq2
        unfold l106_1 zobj
        simp only [go_sem, ↓reduceIte, Nat.reduceEqDiff, Nat.reduceMul, Nat.reduceAdd, Nat.reduceDiv, Nat.reduceSub, Nat.reduceLT, Nat.reduceLeDiff, Int.reduceLE, Int.reduceLT, Int.reduceToNat, Int.reduceEq, n106_1]
        refine ⟨fun h => ?_, fun h => ?_⟩
        · refine callK_i ⟨[.cv (.int .i64 (numR b 1114111 s2).1)], [[.cv (.sl 1 (bys b)), .cv (.int .i64 (numR b 1114111 s2).2.1), .cv (.int .i64 (numR b 1114111 s2).2.2)]]⟩ (fun _ => cw126 b 1114111 s2 hb hat2) ⟨by simp only [go_sem, ↓reduceIte, Nat.reduceEqDiff, Nat.reduceMul, Nat.reduceAdd, Nat.reduceDiv, Nat.reduceSub, Nat.reduceLT, Nat.reduceLeDiff, Int.reduceLE, Int.reduceLT, Int.reduceToNat, Int.reduceEq], .inl rfl, ⟨by simp only [go_sem, ↓reduceIte, Nat.reduceEqDiff, Nat.reduceMul, Nat.reduceAdd, Nat.reduceDiv, Nat.reduceSub, Nat.reduceLT, Nat.reduceLeDiff, Int.reduceLE, Int.reduceLT, Int.reduceToNat, Int.reduceEq], by simp, by simp, by simp⟩, ?_⟩
          simp only [go_sem, ↓reduceIte, Nat.reduceEqDiff, Nat.reduceMul, Nat.reduceAdd, Nat.reduceDiv, Nat.reduceSub, Nat.reduceLT, Nat.reduceLeDiff, Int.reduceLE, Int.reduceLT, Int.reduceToNat, Int.reduceEq]
          rw [take_runes to, app_runes, runes_len, succ64 (show k < n.toNat by omega) (by omega)]
          have hst : lisR8 b (n.toNat - (k + 1)) (numR b 1114111 s2).2 (to ++ [IntKind.i32.wrap (numR b 1114111 s2).1]) = lisR8 b n.toNat s1 r.to := by rw [← heq2, show n.toNat - k = (n.toNat - (k + 1)) + 1 by omega, lisR8, if_neg (by simpa using h.2)]
          have := hZ (k + 1, (numR b 1114111 s2).2, to ++ [IntKind.i32.wrap (numR b 1114111 s2).1]) ⟨by simp only; omega, by simp only [List.length_append, List.length_singleton]; omega, numR_at hat2, hst⟩ (by simp only; omega)
          simp only [List.length_append, List.length_singleton] at this
          exact ⟨by omega, ⟨rfl, by simp⟩, this⟩
        · have hend : lisR8 b (n.toNat - k) s2 to = (s2, to) := by
            rcases h with h | h
            · rw [show n.toNat - k = 0 by omega]; rfl
            · match n.toNat - k with
              | 0 => rfl
              | m + 1 => rw [lisR8, if_pos h]
          rw [hend] at heq2
          rw [← heq2] at heq q1 q2
          rw [succ64 hil (by omega)]
          exact ⟨by simp, hY (i + 1, s2, { r with to := to }) ⟨hil, q1, Nat.le_trans q2 (by omega), heq⟩ (by simp only; omega)⟩
      refine ⟨fun h5 => ?_, fun h5 => ?_⟩
      · rw [ltrF, if_neg (by intro h; rw [h] at h0; exact h0 (by decide)), if_neg (by intro h; rw [h] at h1; exact h1 (by decide)), if_neg (by intro h; rw [h] at h2; exact h2 (by decide)), if_neg (by intro h; rw [h] at h3; exact h3 (by decide)), if_neg (by intro h; rw [h] at h4; exact h4 (by decide)), if_pos (UInt8.toNat_inj.1 (by show _ = 110; omega))] at heq q1 q2
        refine callK_i ⟨[.cv (.str (textP b s).1)], [[.cv (.sl 1 (bys b)), .cv (.int .i64 (textP b s).2.1), .cv (.int .i64 (textP b s).2.2)]]⟩ (fun _ => cw127 b s hb hs2) ⟨by simp only [go_sem, ↓reduceIte, Nat.reduceEqDiff, Nat.reduceMul, Nat.reduceAdd, Nat.reduceDiv, Nat.reduceSub, Nat.reduceLT, Nat.reduceLeDiff, Int.reduceLE, Int.reduceLT, Int.reduceToNat, Int.reduceEq], .inl rfl, ⟨by simp only [go_sem, ↓reduceIte, Nat.reduceEqDiff, Nat.reduceMul, Nat.reduceAdd, Nat.reduceDiv, Nat.reduceSub, Nat.reduceLT, Nat.reduceLeDiff, Int.reduceLE, Int.reduceLT, Int.reduceToNat, Int.reduceEq], by simp, by simp, by simp⟩, ?_⟩
        simp only [go_sem, ↓reduceIte, Nat.reduceEqDiff, Nat.reduceMul, Nat.reduceAdd, Nat.reduceDiv, Nat.reduceSub, Nat.reduceLT, Nat.reduceLeDiff, Int.reduceLE, Int.reduceLT, Int.reduceToNat, Int.reduceEq]
        rw [succ64 hil (by omega)]
        exact ⟨by simp, hY (i + 1, (textP b s).2, { r with name := (textP b s).1 }) ⟨hil, q1, Nat.le_trans q2 (by omega), heq⟩ (by simp only; omega)⟩
      refine ⟨fun h6 => ?_, fun h6 => ?_⟩
      · rw [ltrF, if_neg (by intro h; rw [h] at h0; exact h0 (by decide)), if_neg (by intro h; rw [h] at h1; exact h1 (by decide)), if_neg (by intro h; rw [h] at h2; exact h2 (by decide)), if_neg (by intro h; rw [h] at h3; exact h3 (by decide)), if_neg (by intro h; rw [h] at h4; exact h4 (by decide)), if_neg (by intro h; rw [h] at h5; exact h5 (by decide)), if_pos (UInt8.toNat_inj.1 (by show _ = 111; omega))] at heq q1 q2
        refine callK_i ⟨[.cv (.str (textP b s).1)], [[.cv (.sl 1 (bys b)), .cv (.int .i64 (textP b s).2.1), .cv (.int .i64 (textP b s).2.2)]]⟩ (fun _ => cw127 b s hb hs2) ⟨by simp only [go_sem, ↓reduceIte, Nat.reduceEqDiff, Nat.reduceMul, Nat.reduceAdd, Nat.reduceDiv, Nat.reduceSub, Nat.reduceLT, Nat.reduceLeDiff, Int.reduceLE, Int.reduceLT, Int.reduceToNat, Int.reduceEq], .inl rfl, ⟨by simp only [go_sem, ↓reduceIte, Nat.reduceEqDiff, Nat.reduceMul, Nat.reduceAdd, Nat.reduceDiv, Nat.reduceSub, Nat.reduceLT, Nat.reduceLeDiff, Int.reduceLE, Int.reduceLT, Int.reduceToNat, Int.reduceEq], by simp, by simp, by simp⟩, ?_⟩
        simp only [go_sem, ↓reduceIte, Nat.reduceEqDiff, Nat.reduceMul, Nat.reduceAdd, Nat.reduceDiv, Nat.reduceSub, Nat.reduceLT, Nat.reduceLeDiff, Int.reduceLE, Int.reduceLT, Int.reduceToNat, Int.reduceEq]
        rw [succ64 hil (by omega)]
        exact ⟨by simp, hY (i + 1, (textP b s).2, { r with other := (textP b s).1 }) ⟨hil, q1, Nat.le_trans q2 (by omega), heq⟩ (by simp only; omega)⟩
      rw [ltrF, if_neg (by intro h; rw [h] at h0; exact h0 (by decide)), if_neg (by intro h; rw [h] at h1; exact h1 (by decide)), if_neg (by intro h; rw [h] at h2; exact h2 (by decide)), if_neg (by intro h; rw [h] at h3; exact h3 (by decide)), if_neg (by intro h; rw [h] at h4; exact h4 (by decide)), if_neg (by intro h; rw [h] at h5; exact h5 (by decide)), if_neg (by intro h; rw [h] at h6; exact h6 (by decide))] at heq q1 q2
      refine callK_i ⟨[.cv (.flt (fltP b s).1)], [[.cv (.sl 1 (bys b)), .cv (.int .i64 (fltP b s).2.1), .cv (.int .i64 (fltP b s).2.2)]]⟩ (fun _ => cw128 b s hb hs2) ⟨by simp only [go_sem, ↓reduceIte, Nat.reduceEqDiff, Nat.reduceMul, Nat.reduceAdd, Nat.reduceDiv, Nat.reduceSub, Nat.reduceLT, Nat.reduceLeDiff, Int.reduceLE, Int.reduceLT, Int.reduceToNat, Int.reduceEq], .inl rfl, ⟨by simp only [go_sem, ↓reduceIte, Nat.reduceEqDiff, Nat.reduceMul, Nat.reduceAdd, Nat.reduceDiv, Nat.reduceSub, Nat.reduceLT, Nat.reduceLeDiff, Int.reduceLE, Int.reduceLT, Int.reduceToNat, Int.reduceEq], by simp, by simp, by simp⟩, ?_⟩
      simp only [go_sem, ↓reduceIte, Nat.reduceEqDiff, Nat.reduceMul, Nat.reduceAdd, Nat.reduceDiv, Nat.reduceSub, Nat.reduceLT, Nat.reduceLeDiff, Int.reduceLE, Int.reduceLT, Int.reduceToNat, Int.reduceEq]
      rw [succ64 hil (by omega)]
      exact ⟨by simp, hY (i + 1, (fltP b s).2, { r with weight := (fltP b s).1 }) ⟨hil, q1, Nat.le_trans q2 (by omega), heq⟩ (by simp only; omega)⟩
    · have : i = F.length := by omega
      subst this
      rw [List.drop_length, ltrsF] at heq
      rw [← heq] at hok'
      have ht : List.take r.to.length (runes r.to) = runes r.to := take_runes r.to
      have e8 : u8 (F.getD F.length 0) = .int .u8 0 := by rw [List.getD_eq_getElem?_getD, List.getElem?_eq_none (Nat.le_refl _)]; rfl
      simp only [go_sem, ↓reduceIte, Nat.reduceEqDiff, Nat.reduceMul, Nat.reduceAdd, Nat.reduceDiv, Nat.reduceSub, Nat.reduceLT, Nat.reduceLeDiff, Int.reduceLE, Int.reduceLT, Int.reduceToNat, Int.reduceEq, n106_0, strOf_size, ht, e8]
      exact ⟨fun h => by omega, fun _ => hok' _ _ rfl rfl rfl⟩
  · have : a.toNat = b.length := by omega
    have eb := bys_out (l := b) (k := a.toNat) (by omega)
    simp only [go_sem, ↓reduceIte, Nat.reduceEqDiff, Nat.reduceMul, Nat.reduceAdd, Nat.reduceDiv, Nat.reduceSub, Nat.reduceLT, Nat.reduceLeDiff, Int.reduceLE, Int.reduceLT, Int.reduceToNat, Int.reduceEq, eb]
    exact ⟨fun h => hend h _ _ rfl rfl rfl, fun h => absurd heq h⟩
def zcv (k : Int) : CV := .agg [.int .i64 k, .int .i64 0, .int .i64 0, .int .i64 0, .nilsl, .str ⟨#[]⟩, .str ⟨#[]⟩, .flt 0]
def recS2 (b : List UInt8) (a : Int) : Int × Int :=
  if a = b.length then (a, 10) else if parts8 (kindAt b a) = [] then (a, 60) else (ltrsF b (formL (kindAt b a)) (a + 1, 0) (zeroR (kindAt b a))).1
def recC2 (b : List UInt8) (a : Int) : CV :=
  if a = b.length then zcv 0 else if parts8 (kindAt b a) = [] then zcv (kindAt b a) else (ltrsF b (formL (kindAt b a)) (a + 1, 0) (zeroR (kindAt b a))).2.cv
theorem cw106 (b : List UInt8) (a : Int) (hb : b.length < 1000000000000000) (hs : 0 ≤ a ∧ a ≤ b.length) : CW Try.prog 106 [rdA b (a, 0)] ⟨[.cv (recC2 b a)], [rdB b (recS2 b a)]⟩ := by
  refine top106 rfl rfl [[none, none, none]] ⟨rfl, trivial⟩ (w106 b a hb hs _ (fun h σ H x y z => ?_) (fun h h2 σ H x y z => ?_) (fun h h2 σ H x y z => ?_))
  · unfold recC2 recS2
    rw [if_pos h, if_pos h]
    exact retP8 x y z
  · unfold recC2 recS2
    have ha : ¬a = (b.length : Int) := by omega
    rw [if_neg ha, if_neg ha, if_pos h2, if_pos h2]
    exact retP8 x y z
  · unfold recC2 recS2
    have ha : ¬a = (b.length : Int) := by omega
    rw [if_neg ha, if_neg ha, if_neg h2, if_neg h2]
    exact retP8 x y z
def Eqv (X Y : (Int × Int) × Rec) : Prop := X.1 = Y.1 ∧ (Y.1.2 = 0 → X.2 = Y.2)
theorem Eqv.refl (X : (Int × Int) × Rec) : Eqv X X := ⟨rfl, fun _ => rfl⟩
theorem numP_bad {b : List UInt8} {most : Int} {s : Int × Int} (h : s.2 ≠ 0) : numP b most s = (0, s) := by unfold numP; rw [if_pos h]
theorem numR_bad {b : List UInt8} {most : Int} {s : Int × Int} (h : s.2 ≠ 0) : numR b most s = (0, s) := by unfold numR; rw [numP_bad h, if_pos h]
theorem num_st (b : List UInt8) (most : Int) (s : Int × Int) : (numR b most s).2 = (numP b most s).2 := by unfold numR; split <;> rfl
theorem num_ok {b : List UInt8} {most : Int} {s : Int × Int} (h : (numP b most s).2.2 = 0) : numR b most s = numP b most s := by unfold numR; rw [if_neg (by simpa using h)]
theorem textP_bad {b : List UInt8} {s : Int × Int} (h : s.2 ≠ 0) : textP b s = (⟨#[]⟩, s) := by unfold textP; rw [if_pos h]
theorem fltP_bad {b : List UInt8} {s : Int × Int} (h : s.2 ≠ 0) : fltP b s = (0, s) := by unfold fltP; rw [if_pos h]
theorem lisR8_bad {b : List UInt8} {s : Int × Int} (h : s.2 ≠ 0) (to : List Int) : ∀ k, lisR8 b k s to = (s, to)
  | 0 => rfl
  | k + 1 => by rw [lisR8, if_pos h]
theorem readF_bad {k : Int} {p : Nat × Nat} (hp : p ∈ parts8 k) {b : List UInt8} {s : Int × Int} (r : Rec) (h : s.2 ≠ 0) : (readF p.2 b s r).1 = s := by
  rcases parts8_mem hp with e | e | e | e | e | e | e | e <;> subst e
  · show (numP b 1114111 s).2 = s; rw [numP_bad h]
  · show (numP b 1114111 s).2 = s; rw [numP_bad h]
  · show (numP b 1114111 s).2 = s; rw [numP_bad h]
  · show (numP b 1114111 s).2 = s; rw [numP_bad h]
  · show (listP b (numP b 24 s).1.toNat (numP b 24 s).2 r.to).1 = s
    rw [numP_bad h]; exact congrArg Prod.fst (listP_bad h r.to _)
  · show (textP b s).2 = s; rw [textP_bad h]
  · show (textP b s).2 = s; rw [textP_bad h]
  · show (fltP b s).2 = s; rw [fltP_bad h]
theorem ltrF_bad (c : UInt8) {b : List UInt8} {s : Int × Int} (r : Rec) (h : s.2 ≠ 0) : (ltrF c b s r).1 = s := by
  unfold ltrF
  rw [numR_bad h, numR_bad (b := b) (most := 24) h, textP_bad h, fltP_bad h]
  simp only
  rw [numR_bad h, lisR8_bad h]
  (repeat' split) <;> rfl
theorem readsF_bad {k : Int} {b : List UInt8} {s : Int × Int} (h : s.2 ≠ 0) : ∀ (l : List (Nat × Nat)) (r : Rec), (∀ p ∈ l, p ∈ parts8 k) → (readsF b l s r).1 = s
  | [], r, _ => rfl
  | p :: l, r, hl => by
    rw [readsF, readF_bad (hl p List.mem_cons_self) r h]
    exact readsF_bad h l _ fun x hx => hl x (List.mem_cons_of_mem _ hx)
theorem list_eqv (b : List UInt8) : ∀ (k : Nat) (s : Int × Int) (to : List Int), (lisR8 b k s to).1 = (listP b k s to).1 ∧ ((listP b k s to).1.2 = 0 → (lisR8 b k s to).2 = (listP b k s to).2)
  | 0, s, to => ⟨rfl, fun _ => rfl⟩
  | k + 1, s, to => by
    rw [lisR8, listP]
    by_cases h : s.2 ≠ 0
    · rw [if_pos h, if_pos h]; exact ⟨rfl, fun _ => rfl⟩
    rw [if_neg h, if_neg h, num_st]
    by_cases h2 : (numP b 1114111 s).2.2 = 0
    · rw [num_ok h2]; exact list_eqv b k _ _
    · rw [lisR8_bad h2, listP_bad h2]; exact ⟨rfl, fun h => absurd h h2⟩
theorem eqv_S (b : List UInt8) (s : Int × Int) (r : Rec) : Eqv (ltrF 83 b s r) (readsF b [(81, 82), (84, 85)] s r) := by
  show Eqv ((numR b 1114111 (numR b 1114111 s).2).2, { r with lo := (numR b 1114111 s).1, hi := IntKind.i64.wrap ((numR b 1114111 s).1 + (numR b 1114111 (numR b 1114111 s).2).1) })
    ((numP b 1114111 (numP b 1114111 s).2).2, { r with lo := (numP b 1114111 s).1, hi := IntKind.i64.wrap ((numP b 1114111 s).1 + (numP b 1114111 (numP b 1114111 s).2).1) })
  rw [num_st, num_st]
  refine ⟨rfl, fun h => ?_⟩
  have h2 : (numP b 1114111 (numP b 1114111 s).2).2.2 = 0 := h
  have h1 : (numP b 1114111 s).2.2 = 0 := Decidable.byContradiction fun h1 => by rw [numP_bad h1] at h2; exact h1 h2
  simp only [num_ok h1, num_ok h2]
theorem eqv_L (b : List UInt8) (s : Int × Int) (r : Rec) : Eqv (ltrF 76 b s r) (readsF b [(81, 82)] s r) := by
  show Eqv ((numR b 1114111 s).2, { r with lo := (numR b 1114111 s).1, hi := (numR b 1114111 s).1 }) ((numP b 1114111 s).2, { r with lo := (numP b 1114111 s).1, hi := (numP b 1114111 s).1 })
  refine ⟨num_st b _ s, fun h => ?_⟩
  rw [num_ok h]
theorem eqv_N (b : List UInt8) (s : Int × Int) (r : Rec) : Eqv (ltrF 78 b s r) (readsF b [(86, 87)] s r) := by
  show Eqv ((numR b 1114111 s).2, { r with n := (numR b 1114111 s).1 }) ((numP b 1114111 s).2, { r with n := (numP b 1114111 s).1 })
  refine ⟨num_st b _ s, fun h => ?_⟩
  rw [num_ok h]
theorem eqv_T (b : List UInt8) (s : Int × Int) (r : Rec) : Eqv (ltrF 84 b s r) (readsF b [(88, 89)] s r) := by
  show Eqv ((numR b 1114111 s).2, { r with to := [IntKind.i32.wrap (numR b 1114111 s).1] }) ((numP b 1114111 s).2, { r with to := [IntKind.i32.wrap (numP b 1114111 s).1] })
  refine ⟨num_st b _ s, fun h => ?_⟩
  rw [num_ok h]
theorem eqv_x (b : List UInt8) (s : Int × Int) (r : Rec) : Eqv (ltrF 120 b s r) (readsF b [(90, 91)] s r) := by
  show Eqv ((lisR8 b (numR b 24 s).1.toNat (numR b 24 s).2 r.to).1, { r with to := (lisR8 b (numR b 24 s).1.toNat (numR b 24 s).2 r.to).2 }) ((listP b (numP b 24 s).1.toNat (numP b 24 s).2 r.to).1, { r with to := (listP b (numP b 24 s).1.toNat (numP b 24 s).2 r.to).2 })
  rw [num_st]
  by_cases h : (numP b 24 s).2.2 = 0
  · rw [num_ok h]
    have := list_eqv b (numP b 24 s).1.toNat (numP b 24 s).2 r.to
    exact ⟨this.1, fun h => by rw [this.2 h]⟩
  · rw [lisR8_bad h, listP_bad h]; exact ⟨rfl, fun h2 => absurd h2 h⟩
theorem eqv_n (b : List UInt8) (s : Int × Int) (r : Rec) : Eqv (ltrF 110 b s r) (readsF b [(92, 94)] s r) := Eqv.refl _
theorem eqv_o (b : List UInt8) (s : Int × Int) (r : Rec) : Eqv (ltrF 111 b s r) (readsF b [(96, 97)] s r) := Eqv.refl _
theorem eqv_W (b : List UInt8) (s : Int × Int) (r : Rec) : Eqv (ltrF 87 b s r) (readsF b [(98, 100)] s r) := Eqv.refl _
theorem readsF_app (b : List UInt8) : ∀ (l m : List (Nat × Nat)) (s : Int × Int) (r : Rec), readsF b (l ++ m) s r = readsF b m (readsF b l s r).1 (readsF b l s r).2
  | [], m, s, r => rfl
  | p :: l, m, s, r => readsF_app b l m _ _
theorem eqv_cons {k : Int} {c : UInt8} {F : List UInt8} {l m : List (Nat × Nat)} {b : List UInt8} (hm : ∀ p ∈ m, p ∈ parts8 k) (h1 : ∀ s r, Eqv (ltrF c b s r) (readsF b l s r)) (h2 : ∀ s r, Eqv (ltrsF b F s r) (readsF b m s r))
    (hF : ∀ s r, s.2 ≠ 0 → (ltrsF b F s r).1 = s) (s : Int × Int) (r : Rec) : Eqv (ltrsF b (c :: F) s r) (readsF b (l ++ m) s r) := by
  rw [ltrsF, readsF_app]
  obtain ⟨e1, e2⟩ := h1 s r
  rw [e1]
  by_cases h : (readsF b l s r).1.2 = 0
  · rw [e2 h]; exact h2 _ _
  · have q1 := hF _ (ltrF c b s r).2 h
    have q2 := readsF_bad (b := b) h m (readsF b l s r).2 hm
    refine ⟨by rw [q1, q2], fun h3 => ?_⟩
    rw [q2] at h3; exact absurd h3 h
theorem ltrsF_bad {b : List UInt8} : ∀ (F : List UInt8) (s : Int × Int) (r : Rec), s.2 ≠ 0 → (ltrsF b F s r).1 = s
  | [], s, r, _ => rfl
  | c :: F, s, r, h => by rw [ltrsF, ltrF_bad c r h]; exact ltrsF_bad F s _ h
theorem eqv_kind (k : Int) (hk : parts8 k ≠ []) (b : List UInt8) (s : Int × Int) (r : Rec) : Eqv (ltrsF b (formL k) s r) (readsF b (parts8 k) s r) := by
  have nil : ∀ s r, Eqv (ltrsF b [] s r) (readsF b [] s r) := fun s r => Eqv.refl _
  have nn : ∀ p ∈ ([] : List (Nat × Nat)), p ∈ parts8 k := fun p h => by cases h
  rcases kinds_cases k with (h | h | h | h | h | h | h | h | h | h | h | h | h | h | h) | h
  · subst h; exact eqv_cons nn (eqv_S b) nil (ltrsF_bad _) s r
  · subst h; exact eqv_cons nn (eqv_S b) nil (ltrsF_bad _) s r
  · subst h; exact eqv_cons (k := 3) (m := [(90, 91)]) (by decide) (eqv_S b) (eqv_cons nn (eqv_x b) nil (ltrsF_bad _)) (ltrsF_bad _) s r
  · subst h; exact eqv_cons (k := 4) (m := [(86, 87), (88, 89)]) (by decide) (eqv_S b) (eqv_cons (k := 4) (m := [(88, 89)]) (by decide) (eqv_N b) (eqv_cons nn (eqv_T b) nil (ltrsF_bad _)) (ltrsF_bad _)) (ltrsF_bad _) s r
  · subst h; exact eqv_cons (k := 5) (m := [(90, 91)]) (by decide) (eqv_L b) (eqv_cons nn (eqv_x b) nil (ltrsF_bad _)) (ltrsF_bad _) s r
  · subst h; exact eqv_cons (k := 6) (m := [(86, 87)]) (by decide) (eqv_S b) (eqv_cons nn (eqv_N b) nil (ltrsF_bad _)) (ltrsF_bad _) s r
  · subst h; exact eqv_cons (k := 7) (m := [(90, 91)]) (by decide) (eqv_L b) (eqv_cons nn (eqv_x b) nil (ltrsF_bad _)) (ltrsF_bad _) s r
  · subst h; exact eqv_cons (k := 8) (m := [(90, 91)]) (by decide) (eqv_L b) (eqv_cons nn (eqv_x b) nil (ltrsF_bad _)) (ltrsF_bad _) s r
  · subst h; exact eqv_cons (k := 9) (m := [(86, 87)]) (by decide) (eqv_S b) (eqv_cons nn (eqv_N b) nil (ltrsF_bad _)) (ltrsF_bad _) s r
  · subst h; exact eqv_cons (k := 10) (m := [(86, 87)]) (by decide) (eqv_S b) (eqv_cons nn (eqv_N b) nil (ltrsF_bad _)) (ltrsF_bad _) s r
  · subst h; exact eqv_cons nn (eqv_S b) nil (ltrsF_bad _) s r
  · subst h; exact eqv_cons (k := 12) (m := [(92, 94)]) (by decide) (eqv_S b) (eqv_cons nn (eqv_n b) nil (ltrsF_bad _)) (ltrsF_bad _) s r
  · subst h; exact eqv_cons (k := 13) (m := [(90, 91)]) (by decide) (eqv_L b) (eqv_cons nn (eqv_x b) nil (ltrsF_bad _)) (ltrsF_bad _) s r
  · subst h; exact eqv_cons (k := 14) (m := [(98, 100)]) (by decide) (eqv_S b) (eqv_cons nn (eqv_W b) nil (ltrsF_bad _)) (ltrsF_bad _) s r
  · subst h; exact eqv_cons (k := 15) (m := [(96, 97), (98, 100)]) (by decide) (eqv_n b) (eqv_cons (k := 15) (m := [(98, 100)]) (by decide) (eqv_o b) (eqv_cons nn (eqv_W b) nil (ltrsF_bad _)) (ltrsF_bad _)) (ltrsF_bad _) s r
  · exact absurd (parts8_none h) hk
theorem rec_eq (b : List UInt8) (a : Int) : recS2 b a = recS b a ∧ ((recS b a).2 = 0 → recC2 b a = (recR b a).cv) := by
  unfold recS2 recS recC2
  by_cases h : a = b.length
  · rw [if_pos h, if_pos h]; exact ⟨rfl, fun h => by simp at h⟩
  rw [if_neg h, if_neg h, if_neg h]
  by_cases hp : parts8 (kindAt b a) = []
  · rw [if_pos hp, if_pos hp]; exact ⟨rfl, fun h => by simp at h⟩
  rw [if_neg hp, if_neg hp, if_neg hp]
  obtain ⟨e1, e2⟩ := eqv_kind (kindAt b a) hp b (a + 1, 0) (zeroR (kindAt b a))
  exact ⟨e1, fun h => by rw [e2 h]; rfl⟩
def l62_0 : IC := (.seq (.seq (.reg [⟨(some 31), 0, none, .mv (.t 7)⟩,
  ⟨(some 32), 0, none, .bin .lss (.t 31) (.c (.int .i64 4))⟩]) (.cond (.t 32) .skip (.exit 1))) (.seq (.block 2 (.seq (.reg [⟨(some 35), 0, none, .mv (.t 0)⟩,
  ⟨(some 36), 0, none, .mv (.t 5)⟩,
  ⟨(some 37), 0, none, .bin .sub (.t 36) (.c (.int .i64 4))⟩,
  ⟨(some 38), 0, none, .mv (.t 7)⟩,
  ⟨(some 39), 0, none, .bin .add (.t 37) (.t 38)⟩,
  ⟨(some 40), 0, none, .ia (.t 35) (.t 39) 1⟩,
  ⟨(some 41), 0, none, .ld (.t 40) none⟩,
  ⟨(some 42), 0, none, .mv (.t 6)⟩,
  ⟨(some 43), 0, none, .mv (.t 7)⟩,
  ⟨(some 44), 0, none, .bin .mul (.c (.int .i64 8)) (.t 43)⟩,
  ⟨(some 45), 0, none, .conv .u64 (.t 44)⟩,
  ⟨(some 46), 0, none, .bin .shr (.t 42) (.t 45)⟩,
  ⟨(some 47), 0, none, .bin .and (.t 46) (.c (.int .u32 255))⟩,
  ⟨(some 48), 0, none, .conv .u8 (.t 47)⟩,
  ⟨(some 49), 0, none, .bin .neq (.t 41) (.t 48)⟩]) (.cond (.t 49) (.seq (.reg [⟨(some 50), 0, none, .mv (.t 5)⟩,
  ⟨(some 51), 0, none, .bin .sub (.t 50) (.c (.int .i64 4))⟩,
  ⟨(some 2), 0, none, .mv (.c .nilsl)⟩,
  ⟨(some 3), 0, none, .mv (.t 51)⟩,
  ⟨(some 4), 0, none, .mv (.c (.int .i64 13))⟩]) .ret) .skip))) (.reg [⟨(some 33), 0, none, .mv (.t 7)⟩,
  ⟨(some 34), 0, none, .bin .add (.t 33) (.c (.int .i64 1))⟩,
  ⟨(some 7), 0, none, .mv (.t 34)⟩])))
def n62_0 : Norm := ⟨[(0, .plain), (5, .plain), (6, .plain), (7, .plain)], []⟩
def l62_1 : IC := (.seq (.seq (.reg [⟨(some 88), 0, none, .mv (.t 14)⟩,
  ⟨(some 89), 0, none, .mv (.t 9)⟩,
  ⟨(some 90), 0, none, .bin .lss (.t 88) (.t 89)⟩]) (.cond (.t 90) .skip (.exit 3))) (.seq (.block 4 (.seq (.reg [⟨(some 93), 0, none, .mv (.t 13)⟩,
  ⟨(some 94), 0, none, .mv (.t 8)⟩,
  ⟨(some 95), 0, none, .nck (.t 94)⟩,
  ⟨(some 96), 0, none, .fa (.t 95) 1⟩,
  ⟨(some 97), 0, none, .ld (.t 96) none⟩,
  ⟨(some 98), 22, none, .bsl 1 [(.t 97)]⟩,
  ⟨(some 99), 23, none, .app (.t 93) (.t 98) 1 8 false⟩,
  ⟨(some 13), 0, none, .mv (.t 99)⟩]) (.seq (.reg [⟨(some 100), 0, none, .mv (.t 8)⟩,
  ⟨(some 101), 24, none, .call (.c (.fn 106)) [((.t 100), .ptr [none, none, none])]⟩,
  ⟨(some 15), 34, none, .alloc [(.int .i64 0), (.int .i64 0), (.int .i64 0), (.int .i64 0), .nilsl, (.str ⟨#[]⟩), (.str ⟨#[]⟩), (.flt 0)]⟩,
  ⟨none, 0, none, .st (.t 15) (.t 101) (some 8)⟩]) (.seq (.seq (.reg [⟨(some 102), 0, none, .mv (.t 8)⟩,
  ⟨(some 103), 0, none, .nck (.t 102)⟩,
  ⟨(some 104), 0, none, .fa (.t 103) 2⟩,
  ⟨(some 105), 0, none, .ld (.t 104) none⟩,
  ⟨(some 106), 0, none, .bin .neq (.t 105) (.c (.int .i64 0))⟩]) (.cond (.t 106) (.seq (.draw (.take 0 ⟨(some 107), 0, none, .mv (.t 8)⟩ (.take 1 ⟨(some 108), 0, none, .nck (.t 107)⟩ (.take 2 ⟨(some 109), 0, none, .fa (.t 108) 1⟩ (.take 3 ⟨(some 110), 0, none, .ld (.t 109) none⟩ (.take 4 ⟨(some 111), 0, none, .mv (.t 8)⟩ (.take 5 ⟨(some 112), 0, none, .nck (.t 111)⟩ (.take 6 ⟨(some 113), 0, none, .fa (.t 112) 2⟩ (.take 7 ⟨(some 114), 0, none, .ld (.t 113) none⟩ (.take 8 ⟨(some 2), 0, none, .mv (.c .nilsl)⟩ (.take 9 ⟨(some 3), 0, none, .mv (.t 110)⟩ (.take 10 ⟨(some 4), 0, none, .mv (.t 114)⟩ .done)))))))))))) .ret) .skip)) (.reg [⟨(some 115), 0, none, .mv (.t 12)⟩,
  ⟨(some 116), 0, none, .ld (.t 15) (some 8)⟩,
  ⟨(some 117), 35, none, .bsl 8 [(.t 116)]⟩,
  ⟨(some 118), 36, none, .app (.t 115) (.t 117) 8 96 false⟩,
  ⟨(some 12), 0, none, .mv (.t 118)⟩]))))) (.reg [⟨(some 91), 0, none, .mv (.t 14)⟩,
  ⟨(some 92), 0, none, .bin .add (.t 91) (.c (.int .i64 1))⟩,
  ⟨(some 14), 0, none, .mv (.t 92)⟩])))
def n62_1 : Norm := ⟨[(5, .plain), (8, .plain), (9, .plain), (12, .own 8 1000012), (13, .own 1 1000013), (14, .plain)], [(704, [.plain, .plain, .plain])]⟩
def b62 : IC := (.seq (.reg [⟨(some 2), 0, none, .mv (.c .nilsl)⟩,
  ⟨(some 3), 0, none, .mv (.c (.int .i64 0))⟩,
  ⟨(some 4), 0, none, .mv (.c (.int .i64 0))⟩]) (.seq (.reg [⟨(some 17), 0, none, .mv (.t 0)⟩,
  ⟨(some 18), 0, none, .len false (.t 17)⟩,
  ⟨(some 5), 0, none, .mv (.t 18)⟩]) (.seq (.block 0 (.seq (.reg [⟨(some 20), 0, none, .mv (.t 5)⟩,
  ⟨(some 21), 0, none, .bin .gtr (.t 20) (.c (.int .i64 262144))⟩,
  ⟨(some 19), 0, none, .mv (.t 21)⟩]) (.cond (.t 19) (.seq (.reg [⟨(some 2), 0, none, .mv (.c .nilsl)⟩,
  ⟨(some 3), 0, none, .mv (.c (.int .i64 0))⟩,
  ⟨(some 4), 0, none, .mv (.c (.int .i64 2))⟩]) .ret) (.seq (.reg [⟨(some 23), 0, none, .mv (.t 5)⟩,
  ⟨(some 24), 0, none, .bin .lss (.t 23) (.c (.int .i64 10))⟩,
  ⟨(some 22), 0, none, .mv (.t 24)⟩]) (.cond (.t 22) (.seq (.reg [⟨(some 25), 0, none, .mv (.t 5)⟩,
  ⟨(some 2), 0, none, .mv (.c .nilsl)⟩,
  ⟨(some 3), 0, none, .mv (.t 25)⟩,
  ⟨(some 4), 0, none, .mv (.c (.int .i64 10))⟩]) .ret) .skip))))) (.seq (.reg [⟨(some 26), 0, none, .mv (.t 0)⟩,
  ⟨(some 27), 0, none, .mv (.t 5)⟩,
  ⟨(some 28), 0, none, .bin .sub (.t 27) (.c (.int .i64 4))⟩,
  ⟨(some 29), 0, none, .slc (.t 26) none (some (.t 28)) none 1⟩,
  ⟨(some 30), 1, none, .call (.c (.fn 61)) [((.t 29), .view 1)]⟩,
  ⟨(some 6), 0, none, .mv (.t 30)⟩]) (.seq (.seq (.reg [⟨(some 7), 0, none, .mv (.c (.int .i64 0))⟩]) (.block 1 (.loop n62_0 l62_0))) (.seq (.seq (.reg [⟨(some 52), 0, none, .mv (.t 0)⟩,
  ⟨(some 53), 0, none, .slc (.t 52) none (some (.c (.int .i64 4))) none 1⟩,
  ⟨(some 54), 0, none, .b2s (.t 53)⟩,
  ⟨(some 55), 0, none, .bin .neq (.t 54) (.c (.str ⟨#[101, 110, 100, 111]⟩))⟩]) (.cond (.t 55) (.seq (.reg [⟨(some 2), 0, none, .mv (.c .nilsl)⟩,
  ⟨(some 3), 0, none, .mv (.c (.int .i64 0))⟩,
  ⟨(some 4), 0, none, .mv (.c (.int .i64 12))⟩]) .ret) .skip)) (.seq (.seq (.reg [⟨(some 56), 0, none, .mv (.t 0)⟩,
  ⟨(some 57), 0, none, .ia (.t 56) (.c (.int .i64 4)) 1⟩,
  ⟨(some 58), 0, none, .ld (.t 57) none⟩,
  ⟨(some 59), 0, none, .bin .neq (.t 58) (.c (.int .u8 1))⟩]) (.cond (.t 59) (.seq (.reg [⟨(some 2), 0, none, .mv (.c .nilsl)⟩,
  ⟨(some 3), 0, none, .mv (.c (.int .i64 4))⟩,
  ⟨(some 4), 0, none, .mv (.c (.int .i64 12))⟩]) .ret) .skip)) (.seq (.reg [⟨(some 60), 0, none, .mv (.t 0)⟩,
  ⟨(some 61), 0, none, .mv (.t 5)⟩,
  ⟨(some 62), 0, none, .bin .sub (.t 61) (.c (.int .i64 4))⟩,
  ⟨(some 63), 0, none, .slc (.t 60) none (some (.t 62)) none 1⟩,
  ⟨(some 64), 0, none, .bld [.nilsl, (.int .i64 0), (.int .i64 0)] [(0, (.t 63)), (1, (.c (.int .i64 5)))]⟩,
  ⟨(some 65), 11, none, .box (.t 64)⟩,
  ⟨(some 8), 0, none, .mv (.t 65)⟩]) (.seq (.reg [⟨(some 67), 0, none, .mv (.t 8)⟩,
  ⟨(some 68), 0, none, .nck (.t 67)⟩,
  ⟨(some 69), 0, none, .fa (.t 68) 0⟩,
  ⟨(some 70), 0, none, .ld (.t 69) none⟩,
  ⟨(some 71), 12, none, .call (.c (.fn 105)) [((.t 70), .view 1), ((.c (.int .i64 5)), .plain)]⟩,
  ⟨(some 66), 0, none, .mv (.t 71)⟩,
  ⟨(some 72), 0, none, .ext (.t 66) 0⟩,
  ⟨(some 73), 0, none, .ext (.t 66) 1⟩,
  ⟨(some 74), 0, none, .ext (.t 66) 2⟩,
  ⟨(some 9), 0, none, .mv (.t 72)⟩,
  ⟨(some 10), 0, none, .mv (.t 73)⟩,
  ⟨(some 11), 0, none, .mv (.t 74)⟩]) (.seq (.seq (.reg [⟨(some 75), 0, none, .mv (.t 11)⟩,
  ⟨(some 76), 0, none, .bin .eql (.t 75) (.c (.int .i64 0))⟩,
  ⟨(some 77), 0, none, .mv (.t 76)⟩,
  ⟨(some 78), 0, (some (77, true)), .mv (.t 9)⟩,
  ⟨(some 79), 0, (some (77, true)), .bin .gtr (.t 78) (.c (.int .i64 4096))⟩,
  ⟨(some 80), 0, none, .pick (.t 77) (.t 79) (.c (.bool false))⟩]) (.cond (.t 80) (.reg [⟨(some 11), 0, none, .mv (.c (.int .i64 3))⟩]) .skip)) (.seq (.seq (.reg [⟨(some 81), 0, none, .mv (.t 11)⟩,
  ⟨(some 82), 0, none, .bin .neq (.t 81) (.c (.int .i64 0))⟩]) (.cond (.t 82) (.seq (.reg [⟨(some 83), 0, none, .mv (.t 11)⟩,
  ⟨(some 2), 0, none, .mv (.c .nilsl)⟩,
  ⟨(some 3), 0, none, .mv (.c (.int .i64 5))⟩,
  ⟨(some 4), 0, none, .mv (.t 83)⟩]) .ret) .skip)) (.seq (.reg [⟨(some 84), 0, none, .mv (.t 8)⟩,
  ⟨(some 85), 0, none, .mv (.t 10)⟩,
  ⟨(some 86), 0, none, .nck (.t 84)⟩,
  ⟨(some 87), 0, none, .fa (.t 86) 1⟩,
  ⟨none, 0, none, .st (.t 87) (.t 85) none⟩]) (.seq (.reg [⟨(some 12), 0, none, .mv (.c .nilsl)⟩]) (.seq (.reg [⟨(some 13), 0, none, .mv (.c .nilsl)⟩]) (.seq (.seq (.reg [⟨(some 14), 0, none, .mv (.c (.int .i64 0))⟩]) (.block 3 (.loop n62_1 l62_1))) (.seq (.seq (.reg [⟨(some 119), 0, none, .mv (.t 8)⟩,
  ⟨(some 120), 0, none, .nck (.t 119)⟩,
  ⟨(some 121), 0, none, .fa (.t 120) 1⟩,
  ⟨(some 122), 0, none, .ld (.t 121) none⟩,
  ⟨(some 123), 0, none, .mv (.t 5)⟩,
  ⟨(some 124), 0, none, .bin .sub (.t 123) (.c (.int .i64 4))⟩,
  ⟨(some 125), 0, none, .bin .lss (.t 122) (.t 124)⟩]) (.cond (.t 125) (.seq (.draw (.take 0 ⟨(some 126), 0, none, .mv (.t 8)⟩ (.take 1 ⟨(some 127), 0, none, .nck (.t 126)⟩ (.take 2 ⟨(some 128), 0, none, .fa (.t 127) 1⟩ (.take 3 ⟨(some 129), 0, none, .ld (.t 128) none⟩ (.take 4 ⟨(some 2), 0, none, .mv (.c .nilsl)⟩ (.take 5 ⟨(some 3), 0, none, .mv (.t 129)⟩ (.take 6 ⟨(some 4), 0, none, .mv (.c (.int .i64 14))⟩ .done)))))))) .ret) .skip)) (.seq (.reg [⟨(some 131), 0, none, .mv (.t 12)⟩,
  ⟨(some 132), 37, none, .call (.c (.fn 51)) [((.t 131), .view 8)]⟩,
  ⟨(some 130), 0, none, .mv (.t 132)⟩,
  ⟨(some 133), 0, none, .ext (.t 130) 0⟩,
  ⟨(some 134), 0, none, .ext (.t 130) 1⟩,
  ⟨(some 16), 0, none, .mv (.t 133)⟩,
  ⟨(some 11), 0, none, .mv (.t 134)⟩]) (.seq (.seq (.reg [⟨(some 135), 0, none, .mv (.t 11)⟩,
  ⟨(some 136), 0, none, .bin .neq (.t 135) (.c (.int .i64 0))⟩]) (.cond (.t 136) (.seq (.draw (.take 0 ⟨(some 137), 0, none, .mv (.t 13)⟩ (.take 1 ⟨(some 138), 0, none, .mv (.t 16)⟩ (.take 2 ⟨(some 139), 0, none, .ia (.t 137) (.t 138) 1⟩ (.take 3 ⟨(some 140), 0, none, .ld (.t 139) none⟩ (.take 4 ⟨(some 141), 0, none, .mv (.t 11)⟩ (.take 5 ⟨(some 2), 0, none, .mv (.c .nilsl)⟩ (.take 6 ⟨(some 3), 0, none, .mv (.t 140)⟩ (.take 7 ⟨(some 4), 0, none, .mv (.t 141)⟩ .done))))))))) .ret) .skip)) (.seq (.reg [⟨(some 142), 0, none, .mv (.t 12)⟩,
  ⟨(some 2), 0, none, .mv (.t 142)⟩,
  ⟨(some 3), 0, none, .mv (.c (.int .i64 0))⟩,
  ⟨(some 4), 0, none, .mv (.c (.int .i64 0))⟩]) .ret)))))))))))))))))))
def rs62 : List (Nat × Option Nat × Mode) := [(2, none, .move 8), (3, none, .plain), (4, none, .plain)]
theorem chk62 : chkC Try.prog Try.f62.ntmps b62 (Try.f62.body.getD .skip) = true := by decide +kernel
theorem top62 {args : List Arg} {out : Out} (ha : args.length.ble Try.f62.ntmps = true) (h8 : args.length.ble 8 = true) (mss : List (List (Option Nat))) (hb : backOK args out.back)
    (hw : rnC Try.prog b62 (topQ rs62 args mss out) (slotsOf (argsAV argBase args 0) 0) (argsOb argBase args 0)) : CW Try.prog 62 args out :=
  CW.of Try.func62 rs62 mss (by decide +kernel) (by decide +kernel) (by decide +kernel) ha h8 chk62 hb hw
theorem take_four (b : List UInt8) (n : Nat) (h : b.length = n + 4) : b.drop n = [b.getD n 0, b.getD (n + 1) 0, b.getD (n + 2) 0, b.getD (n + 3) 0] := by
  apply List.ext_getElem
  · simp [h]
  · intro i h1 h2
    simp only [List.length_cons, List.length_nil] at h2
    rw [List.getElem_drop]
    match i, h2 with
    | 0, _ => simp [List.getD_eq_getElem?_getD, List.getElem?_eq_getElem (show n < b.length by omega)]
    | 1, _ => simp [List.getD_eq_getElem?_getD, List.getElem?_eq_getElem (show n + 1 < b.length by omega)]
    | 2, _ => simp [List.getD_eq_getElem?_getD, List.getElem?_eq_getElem (show n + 2 < b.length by omega)]
    | 3, _ => simp [List.getD_eq_getElem?_getD, List.getElem?_eq_getElem (show n + 3 < b.length by omega)]
theorem head_long {b : List UInt8} (h : 262144 < b.length) : headF b = (0, 2) := by unfold headF; rw [if_pos h]
theorem head_short {b : List UInt8} (h : b.length < 10) : headF b = ((b.length : Int), 10) := by unfold headF; rw [if_neg (by omega), if_pos h]
theorem head_sum {b : List UInt8} (h1 : b.length ≤ 262144) (h2 : 10 ≤ b.length) (h : sum4 (sumW (b.take (b.length - 4))) ≠ b.drop (b.length - 4)) : headF b = (((b.length - 4 : Nat) : Int), 13) := by
  unfold headF; rw [if_neg (by omega), if_neg (by omega), if_pos h]
theorem head_rest {b : List UInt8} (h1 : b.length ≤ 262144) (h2 : 10 ≤ b.length) (h : sum4 (sumW (b.take (b.length - 4))) = b.drop (b.length - 4)) :
    headF b = if b.take 4 ≠ [101, 110, 100, 111] then (0, 12) else if b.getD 4 0 ≠ 1 then (4, 12) else (0, 0) := by
  unfold headF; rw [if_neg (by omega), if_neg (by omega), if_neg (by simpa using h)]
theorem unp_head {b : List UInt8} {v : Int × Int} (h : headF b = v) (hv : v.2 ≠ 0) : unpackF b = ([], v) := by unfold unpackF; rw [h, if_pos hv]
theorem unp_rest {b c : List UInt8} (hz : (headF b).2 = 0) (hc : b.take (b.length - 4) = c) : unpackF b =
    if (rdU c 5).2.2 ≠ 0 then ([], 5, (rdU c 5).2.2) else if 4096 < (rdU c 5).1 then ([], 5, 3) else
    match unpGo c (rdU c 5).1.toNat (rdU c 5).2.1 [] [] with
    | .error x => ([], x)
    | .ok (a, ps, l) =>
      if a < ((b.length - 4 : Nat) : Int) then ([], a, 14) else
      if (checkP l).2 ≠ 0 then ([], ps.getD (checkP l).1.toNat 0, (checkP l).2) else (l, 0, 0) := by
  unfold unpackF
  rw [if_neg (by simpa using hz), hc] <;> rfl
theorem bys_getD {b : List UInt8} {k : Nat} (h : k < b.length) : (bys b).getD k .undef = .int .u8 ((b.getD k 0).toNat : Int) := by
  rw [bys_at h, List.getD_eq_getElem?_getD, List.getElem?_eq_getElem h]; rfl
theorem sum_byte {s i : Nat} (hs : s < 4294967296) (hi : i < 4) : IntKind.u8.wrap (bitI .and .u32 ((s : Int).fdiv (2 ^ min (8 * i) 32)) 255) = (((sum4 s).getD i 0).toNat : Int) := by
  have key : ∀ d : Nat, IntKind.u8.wrap (bitI .and .u32 ((s / d : Nat) : Int) 255) = ((by8 ((s / d : Nat) : Int)).toNat : Int) := fun d => by
    have hd : s / d < 4294967296 := Nat.lt_of_le_of_lt (Nat.div_le_self _ _) hs
    have : bitI .and .u32 ((s / d : Nat) : Int) 255 = ((s / d % 256 : Nat) : Int) := by
      show IntKind.u32.wrap ((BitVec.ofInt 32 ((s / d : Nat) : Int) &&& BitVec.ofInt 32 255).toNat : Int) = _
      rw [n32, show BitVec.ofInt 32 255 = BitVec.ofNat 32 (2 ^ 8 - 1) by decide, BitVec.toNat_and, BitVec.toNat_ofNat, BitVec.toNat_ofNat, Nat.mod_eq_of_lt hd, Nat.mod_eq_of_lt (a := 2 ^ 8 - 1) (by decide), Nat.and_two_pow_sub_one_eq_mod, wrap_u32]
      omega
    rw [this, by8_nat, wrap_u8]
    omega
  match i, hi with
  | 0, _ => have := key 1; rw [Nat.div_one] at this; rw [show (2 : Int) ^ min (8 * 0) 32 = ((1 : Nat) : Int) from rfl, fdiv_nat, Nat.div_one]; exact this
  | 1, _ => rw [show (2 : Int) ^ min (8 * 1) 32 = ((256 : Nat) : Int) from rfl, fdiv_nat]; exact key 256
  | 2, _ => rw [show (2 : Int) ^ min (8 * 2) 32 = ((65536 : Nat) : Int) from rfl, fdiv_nat]; exact key 65536
  | 3, _ => rw [show (2 : Int) ^ min (8 * 3) 32 = ((16777216 : Nat) : Int) from rfl, fdiv_nat]; exact key 16777216
theorem four_eq {s : Nat} {b : List UInt8} {n : Nat} (h : b.length = n + 4) : sum4 s = b.drop n ↔ ∀ j, j < 4 → b.getD (n + j) 0 = (sum4 s).getD j 0 := by
  rw [take_four b n h]
  unfold sum4
  simp only [List.cons.injEq, and_true]
  constructor
  · rintro ⟨h0, h1, h2, h3⟩ j hj
    match j, hj with
    | 0, _ => exact h0.symm
    | 1, _ => exact h1.symm
    | 2, _ => exact h2.symm
    | 3, _ => exact h3.symm
  · intro hh
    exact ⟨(hh 0 (by decide)).symm, (hh 1 (by decide)).symm, (hh 2 (by decide)).symm, (hh 3 (by decide)).symm⟩
theorem w62 (b : List UInt8) (hb : b.length < 1000000000000000) (Q : Ex → Slots → LH → Prop) (hQ : ∀ σ H, OwnAt 8 (recs (unpackF b).1) (Slots.get σ 2) H → Slots.get σ 3 = .c (.int .i64 ((unpackF b).2.1)) → Slots.get σ 4 = .c (.int .i64 ((unpackF b).2.2)) → Q .ret σ H) : rnC Try.prog b62 Q [(0, .c (.sl 1 (bys b)))] [] := by
  unfold b62
  have fin : ∀ v : List Rec × Int × Int, unpackF b = v → ∀ σ H, OwnAt 8 (recs v.1) (Slots.get σ 2) H → Slots.get σ 3 = .c (.int .i64 v.2.1) → Slots.get σ 4 = .c (.int .i64 v.2.2) → Q .ret σ H := fun v h => by rw [h] at hQ; exact hQ
  clear hQ
  simp only [go_sem, ↓reduceIte, Nat.reduceEqDiff, Nat.reduceMul, Nat.reduceAdd, Nat.reduceDiv, Nat.reduceSub, Nat.reduceLT, Nat.reduceLeDiff, Int.reduceLE, Int.reduceLT, Int.reduceToNat, Int.reduceEq]
  refine ⟨fun h => ?_, fun h => ?_⟩
  · exact fin _ (unp_head (head_long (by omega)) (by simp)) _ _ (.inl ⟨rfl, rfl⟩) rfl rfl
  refine ⟨fun h2 => ?_, fun h2 => ?_⟩
  · exact fin _ (unp_head (head_short (by omega)) (by simp)) _ _ (.inl ⟨rfl, rfl⟩) rfl rfl
  have e1 : IntKind.i64.wrap ((b.length : Int) - 4) = ((b.length - 4 : Nat) : Int) := by rw [wrap_i64]; omega
  have e4 : List.take (b.length - 4 - 0) (bys b) = bys (b.take (b.length - 4)) := by rw [Nat.sub_zero, ← List.drop_zero (l := bys b), bys_cut]; rfl
  have hcl : (b.take (b.length - 4)).length = b.length - 4 := by rw [List.length_take]; omega
  rw [e1, Int.toNat_natCast, e4]
  refine ⟨by omega, ?_⟩
  refine callK_1 _ (fun _ => cw61 (b.take (b.length - 4)) (by omega)) (by simp only [go_sem, ↓reduceIte, Nat.reduceEqDiff, Nat.reduceMul, Nat.reduceAdd, Nat.reduceDiv, Nat.reduceSub, Nat.reduceLT, Nat.reduceLeDiff, Int.reduceLE, Int.reduceLT, Int.reduceToNat, Int.reduceEq]) rfl rfl ?_
  simp only [go_sem, ↓reduceIte, Nat.reduceEqDiff, Nat.reduceMul, Nat.reduceAdd, Nat.reduceDiv, Nat.reduceSub, Nat.reduceLT, Nat.reduceLeDiff, Int.reduceLE, Int.reduceLT, Int.reduceToNat, Int.reduceEq]
  repeat (refine ⟨by (first | omega | (intro h1 h2; exact ⟨h1, h2⟩) | (intro h1; omega) | (intro h1; exact h1) | trivial), ?_⟩)
  have hsl := sumW_lt (b.take (b.length - 4))
  have hfour := four_eq (s := sumW (b.take (b.length - 4))) (b := b) (n := b.length - 4) (by omega)
  have hsum := head_sum (b := b) (by omega) (by omega)
  have hrest := head_rest (b := b) (by omega) (by omega)
  refine loopR.by (α := Nat) (fun i => [(0, .c (.sl 1 (bys b))), (5, .c (.int .i64 b.length)), (6, .c (.int .u32 (sumW (b.take (b.length - 4)) : Int))), (7, .c (.int .i64 i))]) (fun i => []) (fun i => 4 - i) (fun i => i ≤ 4 ∧ ∀ j, j < i → b.getD (b.length - 4 + j) 0 = (sum4 (sumW (b.take (b.length - 4)))).getD j 0) 0 ⟨Nat.zero_le _, by simp⟩ ?_ ?_
  · intro Y hY
    simp only [go_sem, ↓reduceIte, Nat.reduceEqDiff, Nat.reduceMul, Nat.reduceAdd, Nat.reduceDiv, Nat.reduceSub, Nat.reduceLT, Nat.reduceLeDiff, Int.reduceLE, Int.reduceLT, Int.reduceToNat, Int.reduceEq, n62_0]
    exact hY
  intro i hi Y hY
  obtain ⟨hi, hall⟩ := hi
  unfold l62_0
  have hw1 : IntKind.i64.wrap (IntKind.i64.wrap ((b.length : Int) - 4) + (i : Int)) = ((b.length - 4 + i : Nat) : Int) := by rw [e1, wrap_i64]; omega
  rcases Nat.lt_or_ge i 4 with hi4 | hi4
  · have hw8 : IntKind.u64.wrap (IntKind.i64.wrap (8 * (i : Int))) = ((8 * i : Nat) : Int) := by
      rw [show IntKind.i64.wrap (8 * (i : Int)) = ((8 * i : Nat) : Int) by rw [wrap_i64]; omega, wrap_u64]; omega
    have eb := bys_getD (b := b) (k := b.length - 4 + i) (by omega)
    have hv := sum_byte hsl hi4
    simp only [go_sem, ↓reduceIte, Nat.reduceEqDiff, Nat.reduceMul, Nat.reduceAdd, Nat.reduceDiv, Nat.reduceSub, Nat.reduceLT, Nat.reduceLeDiff, Int.reduceLE, Int.reduceLT, Int.reduceToNat, Int.reduceEq, n62_0, hw1, hw8, eb, hv]
    refine ⟨fun _ => ⟨by omega, by omega, fun hne => ?_, fun hq => ?_⟩, fun h => by omega⟩
    · have := hsum fun he => hne (by rw [hfour.1 he i hi4])
      rw [e1]
      exact fin _ (unp_head this (by simp)) _ _ (.inl ⟨rfl, rfl⟩) rfl rfl
    · rw [succ64 hi4 (by omega)]
      refine hY (i + 1) ⟨by omega, fun j hj => ?_⟩ (by omega)
      rcases Nat.lt_or_ge j i with h | h
      · exact hall j h
      · have : j = i := by omega
        subst this
        exact UInt8.toNat_inj.1 (by omega)
  · have : i = 4 := by omega
    subst this
    have hhead := hrest (hfour.2 hall)
    have e6 : List.take 4 (bys b) = bys (b.take 4) := by rw [← List.drop_zero (l := bys b), bys_cut]; rfl
    have e7 : (bys b).getD 4 .undef = .int .u8 ((b.getD 4 0).toNat : Int) := bys_getD (by omega)
    simp only [go_sem, ↓reduceIte, Nat.reduceEqDiff, Nat.reduceMul, Nat.reduceAdd, Nat.reduceDiv, Nat.reduceSub, Nat.reduceLT, Nat.reduceLeDiff, Int.reduceLE, Int.reduceLT, Int.reduceToNat, Int.reduceEq, n62_0, hw1, bys_out (l := b) (k := b.length - 4 + 4) (by omega), e6, e7]
    refine ⟨fun h => by omega, fun _ => ⟨by omega, bys_isU8 _, fun h4 => ?_, fun h4 => ⟨by omega, fun h5 => ?_, fun h5 => ?_⟩⟩⟩
    · rw [if_pos h4] at hhead
      exact fin _ (unp_head hhead (by simp)) _ _ (.inl ⟨rfl, rfl⟩) rfl rfl
    · rw [if_neg (by simpa using h4), if_pos (fun h => h5 (by rw [h]; rfl))] at hhead
      exact fin _ (unp_head hhead (by simp)) _ _ (.inl ⟨rfl, rfl⟩) rfl rfl
    rw [if_neg (by simpa using h4), if_neg (fun h => h (UInt8.toNat_inj.1 (by show _ = 1; omega)))] at hhead
    have hz : (headF b).2 = 0 := by rw [hhead]
    rw [e1, Int.toNat_natCast, e4]
    refine ⟨by omega, ?_⟩
    generalize hcc : b.take (b.length - 4) = c at *
    refine callK_3 _ _ _ (fun _ => cw105 c 5 (by omega) (by decide)) (by simp only [go_sem, ↓reduceIte, Nat.reduceEqDiff, Nat.reduceMul, Nat.reduceAdd, Nat.reduceDiv, Nat.reduceSub, Nat.reduceLT, Nat.reduceLeDiff, Int.reduceLE, Int.reduceLT, Int.reduceToNat, Int.reduceEq]) rfl rfl ?_
    simp only [go_sem, ↓reduceIte, Nat.reduceEqDiff, Nat.reduceMul, Nat.reduceAdd, Nat.reduceDiv, Nat.reduceSub, Nat.reduceLT, Nat.reduceLeDiff, Int.reduceLE, Int.reduceLT, Int.reduceToNat, Int.reduceEq]
    repeat (refine ⟨by (first | omega | (intro h1 h2; exact ⟨h1, h2⟩) | (intro h1; omega) | (intro h1; exact h1) | trivial), ?_⟩)
    have hsp := rdU_spec c 5
    have hu := unp_rest hz hcc
    rw [hu] at fin
    have hQ := fin _ rfl
    clear fin hu
    refine ⟨fun h => ?_, fun hor => ⟨fun h => ?_, fun h2 => ?_⟩⟩
    · rw [if_neg (by simpa using h.1), if_pos h.2] at hQ
      exact hQ _ _ (.inl ⟨rfl, rfl⟩) rfl rfl
    · rw [if_pos h] at hQ
      exact hQ _ _ (.inl ⟨rfl, rfl⟩) rfl rfl
    have h3 : ¬4096 < (rdU c 5).1 := by omega
    rw [if_neg (by simpa using h2), if_neg h3] at hQ
    have hsp := hsp.1 h2
    have lmax : b.length ≤ 262144 := by omega
    clear hfour hsum hrest hhead hall e6 e7 hY hor
    generalize rdU c 5 = U at hsp hQ h2 h3
    obtain ⟨n, p0, e⟩ := U
    simp only at hsp hQ h2 h3
    obtain ⟨N, rfl⟩ := Int.eq_ofNat_of_zero_le hsp.2.1
    rw [Int.toNat_natCast] at hQ
    refine loopR.by (α := Nat × Int × List Int × List Rec) (fun p => [(5, .c (.int .i64 b.length)), (8, .ref 704 0), (9, .c (.int .i64 N)), (12, .osl 1000012 0 p.2.2.2.length), (13, .osl 1000013 0 p.2.2.1.length), (14, .c (.int .i64 p.1))])
      (fun p => [(1000012, .row 8 (recs p.2.2.2)), (1000013, .row 1 (p.2.2.1.map (CV.int .i64))), (704, .obj [.c (.sl 1 (bys c)), .c (.int .i64 p.2.1), .c (.int .i64 0)])])
      (fun p => N - p.1) (fun p => p.1 ≤ N ∧ (0 ≤ p.2.1 ∧ p.2.1 ≤ c.length) ∧ p.2.2.1.length = p.1 ∧ p.2.2.2.length = p.1 ∧ (∀ r ∈ p.2.2.2, r.fine ∧ r.to.length ≤ 96) ∧ unpGo c (N - p.1) p.2.1 p.2.2.1 p.2.2.2 = unpGo c N p0 [] []) (0, p0, [], [])
      ⟨Nat.zero_le _, by simp only; omega, rfl, rfl, by simp, rfl⟩ ?_ ?_
    · intro Y hY
      simp only [go_sem, ↓reduceIte, Nat.reduceEqDiff, Nat.reduceMul, Nat.reduceAdd, Nat.reduceDiv, Nat.reduceSub, Nat.reduceLT, Nat.reduceLeDiff, Int.reduceLE, Int.reduceLT, Int.reduceToNat, Int.reduceEq, n62_1]
      exact ⟨by simp, hY⟩
    intro p hp Y hY
    obtain ⟨k, a, ps, l⟩ := p
    obtain ⟨hk, ha, hps, hl, hall, heq⟩ := hp
    simp only at hk ha hps hl hall heq
    unfold l62_1
    have hcut1 : List.take ps.length (ps.map (CV.int .i64)) = ps.map (CV.int .i64) := List.take_of_length_le (by simp)
    have hcut2 : List.take l.length (recs l) = recs l := List.take_of_length_le (by rw [recs_len]; omega)
    rcases Nat.lt_or_ge k N with hkN | hkN
    · rw [show N - k = (N - (k + 1)) + 1 by omega, unpGo] at heq
      have c65 := cw106 c a (by omega) ha
      rw [(rec_eq c a).1] at c65
      have x5 := (rec_eq c a).2
      obtain ⟨x1, x2, x3, x4⟩ := recS_spec c a ha
      have hsh : ∃ k lo hi n to nm ot wt, recC2 c a = .agg [.int .i64 k, .int .i64 lo, .int .i64 hi, .int .i64 n, to, .str nm, .str ot, .flt wt] ∧ (to = .nilsl ∨ ∃ l, to = .sl 1 (runes l)) := by
        unfold recC2
        split
        · exact ⟨_, _, _, _, _, _, _, _, rfl, .inl rfl⟩
        · split
          · exact ⟨_, _, _, _, _, _, _, _, rfl, .inl rfl⟩
          · exact ⟨_, _, _, _, _, _, _, _, rfl, .inr ⟨_, rfl⟩⟩
      generalize hS : recS c a = S at c65 x1 x4 x5 heq
      obtain ⟨a', e'⟩ := S
      simp only at c65 x1 x4 x5 heq
      simp only [go_sem, ↓reduceIte, Nat.reduceEqDiff, Nat.reduceMul, Nat.reduceAdd, Nat.reduceDiv, Nat.reduceSub, Nat.reduceLT, Nat.reduceLeDiff, Int.reduceLE, Int.reduceLT, Int.reduceToNat, Int.reduceEq, n62_1]
      refine ⟨fun _ => ⟨by omega, ?_⟩, fun h => by omega⟩
      by_cases he : e' = 0
      · subst he
        rw [if_neg (by simp)] at heq
        rw [x5 rfl] at c65
        refine callK_i ⟨[.cv (.agg [.int .i64 (recR c a).kind, .int .i64 (recR c a).lo, .int .i64 (recR c a).hi, .int .i64 (recR c a).n, .sl 1 (runes (recR c a).to), .str (recR c a).name, .str (recR c a).other, .flt (recR c a).weight])], [[.cv (.sl 1 (bys c)), .cv (.int .i64 a'), .cv (.int .i64 0)]]⟩ (fun _ => c65) ⟨by simp only [go_sem, ↓reduceIte, Nat.reduceEqDiff, Nat.reduceMul, Nat.reduceAdd, Nat.reduceDiv, Nat.reduceSub, Nat.reduceLT, Nat.reduceLeDiff, Int.reduceLE, Int.reduceLT, Int.reduceToNat, Int.reduceEq], .inl rfl, ⟨by simp only [go_sem, ↓reduceIte, Nat.reduceEqDiff, Nat.reduceMul, Nat.reduceAdd, Nat.reduceDiv, Nat.reduceSub, Nat.reduceLT, Nat.reduceLeDiff, Int.reduceLE, Int.reduceLT, Int.reduceToNat, Int.reduceEq], by simp, by simp, by simp⟩, ?_⟩
        simp only [go_sem, ↓reduceIte, Nat.reduceEqDiff, Nat.reduceMul, Nat.reduceAdd, Nat.reduceDiv, Nat.reduceSub, Nat.reduceLT, Nat.reduceLeDiff, Int.reduceLE, Int.reduceLT, Int.reduceToNat, Int.reduceEq, hcut1, hcut2]
        have hz : recs (l ++ [recR c a]) = recs l ++ [(recR c a).cv] := by simp [recs]
        have := hY (k + 1, a', ps ++ [a], l ++ [recR c a]) ⟨by simp only; omega, by simp only; exact x1, by simp only [List.length_append, List.length_singleton]; omega, by simp only [List.length_append, List.length_singleton]; omega, fun r hr => by
          rcases List.mem_append.1 hr with hr | hr
          · exact hall r hr
          · rw [List.mem_singleton.1 hr]; exact ⟨x3, x2⟩, heq⟩ (by simp only; omega)
        simp only [hz, List.length_append, List.length_singleton, List.map_append, List.map_cons, List.map_nil] at this
        rw [succ64 hkN (by omega)]
        exact ⟨by omega, by simp, this⟩
      · rw [if_pos he] at heq
        rw [← heq] at hQ
        obtain ⟨vk, vlo, vhi, vn, vto, vnm, vot, vwt, hsh, hto⟩ := hsh
        rw [hsh] at c65
        rcases hto with rfl | ⟨tl, rfl⟩
        · refine callK_i ⟨[.cv (.agg [.int .i64 vk, .int .i64 vlo, .int .i64 vhi, .int .i64 vn, .nilsl, .str vnm, .str vot, .flt vwt])], [[.cv (.sl 1 (bys c)), .cv (.int .i64 a'), .cv (.int .i64 e')]]⟩ (fun _ => c65) ⟨by simp only [go_sem, ↓reduceIte, Nat.reduceEqDiff, Nat.reduceMul, Nat.reduceAdd, Nat.reduceDiv, Nat.reduceSub, Nat.reduceLT, Nat.reduceLeDiff, Int.reduceLE, Int.reduceLT, Int.reduceToNat, Int.reduceEq], .inl rfl, ⟨by simp only [go_sem, ↓reduceIte, Nat.reduceEqDiff, Nat.reduceMul, Nat.reduceAdd, Nat.reduceDiv, Nat.reduceSub, Nat.reduceLT, Nat.reduceLeDiff, Int.reduceLE, Int.reduceLT, Int.reduceToNat, Int.reduceEq], by simp, by simp, by simp⟩, ?_⟩
          simp only [go_sem, ↓reduceIte, Nat.reduceEqDiff, Nat.reduceMul, Nat.reduceAdd, Nat.reduceDiv, Nat.reduceSub, Nat.reduceLT, Nat.reduceLeDiff, Int.reduceLE, Int.reduceLT, Int.reduceToNat, Int.reduceEq, hcut1, hcut2]
          exact ⟨fun _ => hQ _ _ (.inl ⟨rfl, rfl⟩) rfl rfl, fun h => absurd h he⟩
        · refine callK_i ⟨[.cv (.agg [.int .i64 vk, .int .i64 vlo, .int .i64 vhi, .int .i64 vn, .sl 1 (runes tl), .str vnm, .str vot, .flt vwt])], [[.cv (.sl 1 (bys c)), .cv (.int .i64 a'), .cv (.int .i64 e')]]⟩ (fun _ => c65) ⟨by simp only [go_sem, ↓reduceIte, Nat.reduceEqDiff, Nat.reduceMul, Nat.reduceAdd, Nat.reduceDiv, Nat.reduceSub, Nat.reduceLT, Nat.reduceLeDiff, Int.reduceLE, Int.reduceLT, Int.reduceToNat, Int.reduceEq], .inl rfl, ⟨by simp only [go_sem, ↓reduceIte, Nat.reduceEqDiff, Nat.reduceMul, Nat.reduceAdd, Nat.reduceDiv, Nat.reduceSub, Nat.reduceLT, Nat.reduceLeDiff, Int.reduceLE, Int.reduceLT, Int.reduceToNat, Int.reduceEq], by simp, by simp, by simp⟩, ?_⟩
          simp only [go_sem, ↓reduceIte, Nat.reduceEqDiff, Nat.reduceMul, Nat.reduceAdd, Nat.reduceDiv, Nat.reduceSub, Nat.reduceLT, Nat.reduceLeDiff, Int.reduceLE, Int.reduceLT, Int.reduceToNat, Int.reduceEq, hcut1, hcut2]
          exact ⟨fun _ => hQ _ _ (.inl ⟨rfl, rfl⟩) rfl rfl, fun h => absurd h he⟩
    · have : k = N := by omega
      subst this
      rw [Nat.sub_self, unpGo] at heq
      rw [← heq] at hQ
      simp only at hQ
      rw [hcl] at ha
      have c30 := cw51 l (fun r hr => (hall r hr).1.1) (fun r hr => Nat.le_trans (hall r hr).2 (by decide))
      rw [← check_eq (fun r hr => (hall r hr).1.1) (fun r hr => (hall r hr).1.2)] at c30
      simp only [go_sem, ↓reduceIte, Nat.reduceEqDiff, Nat.reduceMul, Nat.reduceAdd, Nat.reduceDiv, Nat.reduceSub, Nat.reduceLT, Nat.reduceLeDiff, Int.reduceLE, Int.reduceLT, Int.reduceToNat, Int.reduceEq, n62_1, hcut2, hcl, e1]
      refine ⟨fun h => by omega, fun _ => ⟨fun h5 => ?_, fun h5 => ?_⟩⟩
      · rw [if_pos h5] at hQ
        exact hQ _ _ (.inl ⟨rfl, rfl⟩) rfl rfl
      rw [if_neg (by omega)] at hQ
      refine callK_i ⟨[.cv (.int .i64 (checkP l).1), .cv (.int .i64 (checkP l).2)], []⟩ (fun _ => c30) ⟨by simp only [go_sem, ↓reduceIte, Nat.reduceEqDiff, Nat.reduceMul, Nat.reduceAdd, Nat.reduceDiv, Nat.reduceSub, Nat.reduceLT, Nat.reduceLeDiff, Int.reduceLE, Int.reduceLT, Int.reduceToNat, Int.reduceEq], .inr ⟨by simp [OC.scalar, CV.scalar], by simp⟩, ⟨by simp only [go_sem, ↓reduceIte, Nat.reduceEqDiff, Nat.reduceMul, Nat.reduceAdd, Nat.reduceDiv, Nat.reduceSub, Nat.reduceLT, Nat.reduceLeDiff, Int.reduceLE, Int.reduceLT, Int.reduceToNat, Int.reduceEq], by simp, by simp, by simp⟩, ?_⟩
      simp only [go_sem, ↓reduceIte, Nat.reduceEqDiff, Nat.reduceMul, Nat.reduceAdd, Nat.reduceDiv, Nat.reduceSub, Nat.reduceLT, Nat.reduceLeDiff, Int.reduceLE, Int.reduceLT, Int.reduceToNat, Int.reduceEq]
      refine ⟨fun h6 => ?_, fun h6 => ?_⟩
      · rw [if_pos h6] at hQ
        have hat := check_at (by omega) h6
        have ep : (ps.map (CV.int .i64)).getD (checkP l).1.toNat .undef = .int .i64 (ps.getD (checkP l).1.toNat 0) := by
          have : (checkP l).1.toNat < ps.length := by omega
          simp [List.getD_eq_getElem?_getD, this]
        rw [ep]
        exact ⟨by omega, hQ _ _ (.inl ⟨rfl, rfl⟩) rfl rfl⟩
      · rw [if_neg (by simpa using h6)] at hQ
        exact hQ _ _ (own_at rfl (by rw [recs_len]) rfl) rfl rfl
theorem cw62 (b : List UInt8) (hb : b.length < 1000000000000000) : CW Try.prog 62 [.cv (.sl 1 (bys b))] ⟨[.own 8 (recs (unpackF b).1), .cv (.int .i64 ((unpackF b).2.1)), .cv (.int .i64 ((unpackF b).2.2))], []⟩ :=
  top62 rfl rfl [] trivial (w62 b hb _ fun σ H h h' h'' => retO3 rfl h h' h'')
def l35_0 : IC := (.seq (.seq (.reg [⟨(some 11), 0, none, .mv (.t 5)⟩,
  ⟨(some 12), 0, none, .bin .lss (.t 11) (.c (.int .i64 4))⟩]) (.cond (.t 12) .skip (.exit 0))) (.seq (.block 1 (.reg [⟨(some 15), 0, none, .mv (.t 3)⟩,
  ⟨(some 16), 0, none, .mv (.t 4)⟩,
  ⟨(some 17), 0, none, .mv (.t 5)⟩,
  ⟨(some 18), 0, none, .bin .mul (.c (.int .i64 8)) (.t 17)⟩,
  ⟨(some 19), 0, none, .conv .u64 (.t 18)⟩,
  ⟨(some 20), 0, none, .bin .shr (.t 16) (.t 19)⟩,
  ⟨(some 21), 0, none, .bin .and (.t 20) (.c (.int .u32 255))⟩,
  ⟨(some 22), 0, none, .conv .u8 (.t 21)⟩,
  ⟨(some 23), 12, none, .bsl 1 [(.t 22)]⟩,
  ⟨(some 24), 13, none, .app (.t 15) (.t 23) 1 1 false⟩,
  ⟨(some 3), 0, none, .mv (.t 24)⟩])) (.reg [⟨(some 13), 0, none, .mv (.t 5)⟩,
  ⟨(some 14), 0, none, .bin .add (.t 13) (.c (.int .i64 1))⟩,
  ⟨(some 5), 0, none, .mv (.t 14)⟩])))
def n35_0 : Norm := ⟨[(3, .own 1 1000003), (4, .plain), (5, .plain)], []⟩
def b35 : IC := (.seq (.reg [⟨(some 2), 0, none, .mv (.c .nilsl)⟩]) (.seq (.reg [⟨(some 3), 0, none, .mv (.c .nilsl)⟩]) (.seq (.reg [⟨(some 6), 0, none, .mv (.t 3)⟩,
  ⟨(some 7), 0, none, .mv (.t 0)⟩,
  ⟨(some 8), 1, none, .app (.t 6) (.t 7) 1 1 false⟩,
  ⟨(some 3), 0, none, .mv (.t 8)⟩]) (.seq (.reg [⟨(some 9), 0, none, .mv (.t 0)⟩,
  ⟨(some 10), 2, none, .call (.c (.fn 61)) [((.t 9), .view 1)]⟩,
  ⟨(some 4), 0, none, .mv (.t 10)⟩]) (.seq (.seq (.reg [⟨(some 5), 0, none, .mv (.c (.int .i64 0))⟩]) (.block 0 (.loop n35_0 l35_0))) (.seq (.reg [⟨(some 25), 0, none, .mv (.t 3)⟩,
  ⟨(some 2), 0, none, .mv (.t 25)⟩]) .ret))))))
def rs35 : List (Nat × Option Nat × Mode) := [(2, none, .move 1)]
theorem chk35 : chkC Try.prog Try.f35.ntmps b35 (Try.f35.body.getD .skip) = true := by decide +kernel
theorem top35 {args : List Arg} {out : Out} (ha : args.length.ble Try.f35.ntmps = true) (h8 : args.length.ble 8 = true) (mss : List (List (Option Nat))) (hb : backOK args out.back)
    (hw : rnC Try.prog b35 (topQ rs35 args mss out) (slotsOf (argsAV argBase args 0) 0) (argsOb argBase args 0)) : CW Try.prog 35 args out :=
  CW.of Try.func35 rs35 mss (by decide +kernel) (by decide +kernel) (by decide +kernel) ha h8 chk35 hb hw
theorem sum_take (s j : Nat) (hj : j < 4) : (sum4 s).take (j + 1) = (sum4 s).take j ++ [(sum4 s).getD j 0] := by
  match j, hj with
  | 0, _ => rfl
  | 1, _ => rfl
  | 2, _ => rfl
  | 3, _ => rfl
theorem sum_cv {s j : Nat} (hs : s < 4294967296) (hj : j < 4) : CV.int .u8 (IntKind.u8.wrap (bitI .and .u32 ((s : Int).fdiv (2 ^ min (8 * j) 32)) 255)) = u8 ((sum4 s).getD j 0) := by
  rw [sum_byte hs hj]; rfl
theorem w35 (b : List UInt8) (hb : b.length ≤ 140737488351232) (Q : Ex → Slots → LH → Prop) (hQ : ∀ σ H, OwnAt 1 (bys (b ++ sum4 (sumW b))) (Slots.get σ 2) H → Q .ret σ H) : rnC Try.prog b35 Q [(0, .c (.sl 1 (bys b)))] [] := by
  unfold b35
  simp only [go_sem, ↓reduceIte, Nat.reduceEqDiff, Nat.reduceMul, Nat.reduceAdd, Nat.reduceDiv, Nat.reduceSub, Nat.reduceLT, Nat.reduceLeDiff, Int.reduceLE, Int.reduceLT, Int.reduceToNat, Int.reduceEq]
  refine ⟨by omega, ?_⟩
  refine callK_1 _ (fun _ => cw61 b (by omega)) (by simp only [go_sem, ↓reduceIte, Nat.reduceEqDiff, Nat.reduceMul, Nat.reduceAdd, Nat.reduceDiv, Nat.reduceSub, Nat.reduceLT, Nat.reduceLeDiff, Int.reduceLE, Int.reduceLT, Int.reduceToNat, Int.reduceEq]) rfl rfl ?_
  simp only [go_sem, ↓reduceIte, Nat.reduceEqDiff, Nat.reduceMul, Nat.reduceAdd, Nat.reduceDiv, Nat.reduceSub, Nat.reduceLT, Nat.reduceLeDiff, Int.reduceLE, Int.reduceLT, Int.reduceToNat, Int.reduceEq]
  repeat (refine ⟨by (first | omega | (intro h1 h2; exact ⟨h1, h2⟩) | (intro h1; omega) | (intro h1; exact h1) | trivial), ?_⟩)
  have hs := sumW_lt b
  generalize hS : sumW b = s at *
  refine loopR.by (α := Nat) (fun j => [(3, .osl 1000003 0 (b.length + j)), (4, .c (.int .u32 s)), (5, .c (.int .i64 j))]) (fun j => [(1000003, .row 1 (bys (b ++ (sum4 s).take j)))]) (fun j => 4 - j) (fun j => j ≤ 4) 0 (Nat.zero_le _) ?_ ?_
  · intro Y hY
    simp only [List.take_zero, List.append_nil, Nat.add_zero] at hY
    simp only [go_sem, ↓reduceIte, Nat.reduceEqDiff, Nat.reduceMul, Nat.reduceAdd, Nat.reduceDiv, Nat.reduceSub, Nat.reduceLT, Nat.reduceLeDiff, Int.reduceLE, Int.reduceLT, Int.reduceToNat, Int.reduceEq, n35_0]
    exact hY
  intro j hj Y hY
  unfold l35_0
  have hw8 : IntKind.u64.wrap (IntKind.i64.wrap (8 * (j : Int))) = ((8 * j : Nat) : Int) := by
    rw [show IntKind.i64.wrap (8 * (j : Int)) = ((8 * j : Nat) : Int) by rw [wrap_i64]; omega, wrap_u64]; omega
  have hl : (b ++ (sum4 s).take j).length = b.length + j := by
    rw [List.length_append, List.length_take]
    have : (sum4 s).length = 4 := rfl
    omega
  have hcut : List.take (b.length + j) (bys (b ++ (sum4 s).take j)) = bys (b ++ (sum4 s).take j) := List.take_of_length_le (by rw [bys_len, hl]; exact Nat.le_refl _)
  simp only [go_sem, ↓reduceIte, Nat.reduceEqDiff, Nat.reduceMul, Nat.reduceAdd, Nat.reduceDiv, Nat.reduceSub, Nat.reduceLT, Nat.reduceLeDiff, Int.reduceLE, Int.reduceLT, Int.reduceToNat, Int.reduceEq, n35_0, hw8, hcut]
  refine ⟨fun h => ?_, fun h => ?_⟩
  · have hj4 : j < 4 := by omega
    rw [sum_cv hs hj4, bys_one, bys_app, List.append_assoc, ← sum_take s j hj4, succ64 hj4 (by omega)]
    have := hY (j + 1) (by omega) (by omega)
    have htl : (List.take j (sum4 s)).length = j := by rw [List.length_append] at hl; omega
    rw [htl]
    exact (by first | exact ⟨by omega, rfl, this⟩ | exact ⟨by omega, by omega, rfl, this⟩ | exact ⟨by omega, by omega, this⟩)
  · have : j = 4 := by omega
    subst this
    have e4 : (sum4 s).take 4 = sum4 s := rfl
    rw [e4] at hl ⊢
    exact hQ _ _ (own_at rfl (by rw [bys_len, hl]) rfl)
theorem cw35 (b : List UInt8) (hb : b.length ≤ 140737488351232) : CW Try.prog 35 [.cv (.sl 1 (bys b))] ⟨[.own 1 (bys (b ++ sum4 (sumW b)))], []⟩ :=
  top35 rfl rfl [] trivial (w35 b hb _ fun σ H h => retO rfl h)
def b46 : IC := (.seq (.reg [⟨(some 2), 1, none, .box (.t 0)⟩,
  ⟨(some 3), 2, none, .box (.t 1)⟩,
  ⟨(some 4), 0, none, .mv (.c (.bool false))⟩]) (.seq (.draw (.take 0 ⟨(some 5), 0, none, .fa (.t 2) 0⟩ (.take 1 ⟨(some 6), 0, none, .ld (.t 5) none⟩ (.take 2 ⟨(some 7), 0, none, .fa (.t 3) 0⟩ (.take 3 ⟨(some 8), 0, none, .ld (.t 7) none⟩ (.take 4 ⟨(some 9), 0, none, .bin .eql (.t 6) (.t 8)⟩ (.take 5 ⟨(some 10), 0, none, .mv (.t 9)⟩ (.take 6 ⟨(some 11), 0, (some (10, true)), .fa (.t 2) 1⟩ (.take 7 ⟨(some 12), 0, (some (10, true)), .ld (.t 11) none⟩ (.take 8 ⟨(some 13), 0, (some (10, true)), .fa (.t 3) 1⟩ (.take 9 ⟨(some 14), 0, (some (10, true)), .ld (.t 13) none⟩ (.take 10 ⟨(some 15), 0, (some (10, true)), .bin .eql (.t 12) (.t 14)⟩ (.take 11 ⟨(some 16), 0, none, .pick (.t 10) (.t 15) (.c (.bool false))⟩ (.take 12 ⟨(some 17), 0, none, .mv (.t 16)⟩ (.take 13 ⟨(some 18), 0, (some (17, true)), .fa (.t 2) 2⟩ (.take 14 ⟨(some 19), 0, (some (17, true)), .ld (.t 18) none⟩ (.take 15 ⟨(some 20), 0, (some (17, true)), .fa (.t 3) 2⟩ (.take 16 ⟨(some 21), 0, (some (17, true)), .ld (.t 20) none⟩ (.take 17 ⟨(some 22), 0, (some (17, true)), .bin .eql (.t 19) (.t 21)⟩ (.take 18 ⟨(some 23), 0, none, .pick (.t 17) (.t 22) (.c (.bool false))⟩ (.take 19 ⟨(some 24), 0, none, .mv (.t 23)⟩ (.take 20 ⟨(some 25), 0, (some (24, true)), .fa (.t 2) 3⟩ (.take 21 ⟨(some 26), 0, (some (24, true)), .ld (.t 25) none⟩ (.take 22 ⟨(some 27), 0, (some (24, true)), .fa (.t 3) 3⟩ (.take 23 ⟨(some 28), 0, (some (24, true)), .ld (.t 27) none⟩ (.take 24 ⟨(some 29), 0, (some (24, true)), .bin .eql (.t 26) (.t 28)⟩ (.take 25 ⟨(some 30), 0, none, .pick (.t 24) (.t 29) (.c (.bool false))⟩ (.take 26 ⟨(some 31), 0, none, .mv (.t 30)⟩ (.take 27 ⟨(some 32), 0, (some (31, true)), .fa (.t 2) 4⟩ (.take 28 ⟨(some 33), 0, (some (31, true)), .ld (.t 32) none⟩ (.take 29 ⟨(some 34), 0, (some (31, true)), .fa (.t 3) 4⟩ (.take 30 ⟨(some 35), 0, (some (31, true)), .ld (.t 34) none⟩ (.br 31 ⟨(some 36), 3, (some (31, true)), .call (.c (.fn 20)) [((.t 33), .view 1), ((.t 35), .view 1)]⟩ [false, true, false, true, false, true, true, true, true, true, true, true, true, true, true, true, true, true, true, true, true, true, true, true, true, true, true, true, true, true, true] (.take 32 ⟨(some 37), 0, none, .pick (.t 31) (.t 36) (.c (.bool false))⟩ (.take 33 ⟨(some 38), 0, none, .mv (.t 37)⟩ (.take 34 ⟨(some 39), 0, (some (38, true)), .fa (.t 2) 5⟩ (.take 35 ⟨(some 40), 0, (some (38, true)), .ld (.t 39) none⟩ (.take 36 ⟨(some 41), 0, (some (38, true)), .fa (.t 3) 5⟩ (.take 37 ⟨(some 42), 0, (some (38, true)), .ld (.t 41) none⟩ (.take 38 ⟨(some 43), 0, (some (38, true)), .bin .eql (.t 40) (.t 42)⟩ (.take 39 ⟨(some 44), 0, none, .pick (.t 38) (.t 43) (.c (.bool false))⟩ (.take 40 ⟨(some 45), 0, none, .mv (.t 44)⟩ (.take 41 ⟨(some 46), 0, (some (45, true)), .fa (.t 2) 6⟩ (.take 42 ⟨(some 47), 0, (some (45, true)), .ld (.t 46) none⟩ (.take 43 ⟨(some 48), 0, (some (45, true)), .fa (.t 3) 6⟩ (.take 44 ⟨(some 49), 0, (some (45, true)), .ld (.t 48) none⟩ (.take 45 ⟨(some 50), 0, (some (45, true)), .bin .eql (.t 47) (.t 49)⟩ (.take 46 ⟨(some 51), 0, none, .pick (.t 45) (.t 50) (.c (.bool false))⟩ (.take 47 ⟨(some 52), 0, none, .mv (.t 51)⟩ (.take 48 ⟨(some 53), 0, (some (52, true)), .fa (.t 2) 7⟩ (.take 49 ⟨(some 54), 0, (some (52, true)), .ld (.t 53) none⟩ (.take 51 ⟨(some 56), 0, (some (52, true)), .fa (.t 3) 7⟩ (.take 52 ⟨(some 57), 0, (some (52, true)), .ld (.t 56) none⟩ (.br 50 ⟨(some 55), 13, (some (52, true)), .call (.c (.fn 69)) [((.t 54), .plain)]⟩ [true, true, false, true, false, true, true, true, true, true, true, true, true, true, true, true, true, true, true, true, true, true, true, true, true, true, true, true, true, true, true, true, true, true, true, true, true, true, true, true, true, true, true, true, true, true, true, true] (.br 53 ⟨(some 58), 23, (some (52, true)), .call (.c (.fn 69)) [((.t 57), .plain)]⟩ [false, true, true, true, true, true, true, true, true, true, true, true, true, true, true, true, true, true, true, true, true, true, true, true, true, true, true, true, true, true, true, true, true, true, true, true, true, true, true, true, true, true, true, true, true, true] (.take 54 ⟨(some 59), 0, (some (52, true)), .bin .eql (.t 55) (.t 58)⟩ (.take 55 ⟨(some 60), 0, none, .pick (.t 52) (.t 59) (.c (.bool false))⟩ (.take 56 ⟨(some 4), 0, none, .mv (.t 60)⟩ .done))) .no) .no))))))))))))))))))))) .no))))))))))))))))))))))))))))))))) .ret))
def rs46 : List (Nat × Option Nat × Mode) := [(4, none, .plain)]
theorem chk46 : chkC Try.prog Try.f46.ntmps b46 (Try.f46.body.getD .skip) = true := by decide +kernel
theorem top46 {args : List Arg} {out : Out} (ha : args.length.ble Try.f46.ntmps = true) (h8 : args.length.ble 8 = true) (mss : List (List (Option Nat))) (hb : backOK args out.back)
    (hw : rnC Try.prog b46 (topQ rs46 args mss out) (slotsOf (argsAV argBase args 0) 0) (argsOb argBase args 0)) : CW Try.prog 46 args out :=
  CW.of Try.func46 rs46 mss (by decide +kernel) (by decide +kernel) (by decide +kernel) ha h8 chk46 hb hw
def l23_0 : IC := (.seq (.seq (.reg [⟨(some 11), 0, none, .mv (.t 5)⟩,
  ⟨(some 12), 0, none, .mv (.t 0)⟩,
  ⟨(some 13), 0, none, .len false (.t 12)⟩,
  ⟨(some 14), 0, none, .bin .lss (.t 11) (.t 13)⟩]) (.cond (.t 14) .skip (.exit 0))) (.seq (.block 1 (.seq (.draw (.take 0 ⟨(some 17), 0, none, .mv (.t 0)⟩ (.take 1 ⟨(some 18), 0, none, .mv (.t 5)⟩ (.take 2 ⟨(some 19), 0, none, .ia (.t 17) (.t 18) 8⟩ (.take 3 ⟨(some 20), 0, none, .ld (.t 19) (some 8)⟩ (.take 4 ⟨(some 21), 0, none, .mv (.t 1)⟩ (.take 5 ⟨(some 22), 0, none, .mv (.t 5)⟩ (.take 6 ⟨(some 23), 0, none, .ia (.t 21) (.t 22) 8⟩ (.take 7 ⟨(some 24), 0, none, .ld (.t 23) (some 8)⟩ (.br 8 ⟨(some 25), 1, none, .call (.c (.fn 46)) [((.t 20), .plain), ((.t 24), .plain)]⟩ [false, true, true, true, false, true, true, true] (.take 9 ⟨(some 26), 0, none, .not (.t 25)⟩ .done) .no)))))))))) (.cond (.t 26) (.seq (.reg [⟨(some 4), 0, none, .mv (.c (.bool false))⟩]) .ret) .skip))) (.reg [⟨(some 15), 0, none, .mv (.t 5)⟩,
  ⟨(some 16), 0, none, .bin .add (.t 15) (.c (.int .i64 1))⟩,
  ⟨(some 5), 0, none, .mv (.t 16)⟩])))
def n23_0 : Norm := ⟨[(0, .plain), (1, .plain), (5, .plain)], []⟩
def b23 : IC := (.seq (.reg [⟨(some 4), 0, none, .mv (.c (.bool false))⟩]) (.seq (.seq (.reg [⟨(some 6), 0, none, .mv (.t 0)⟩,
  ⟨(some 7), 0, none, .len false (.t 6)⟩,
  ⟨(some 8), 0, none, .mv (.t 1)⟩,
  ⟨(some 9), 0, none, .len false (.t 8)⟩,
  ⟨(some 10), 0, none, .bin .neq (.t 7) (.t 9)⟩]) (.cond (.t 10) (.seq (.reg [⟨(some 4), 0, none, .mv (.c (.bool false))⟩]) .ret) .skip)) (.seq (.seq (.reg [⟨(some 5), 0, none, .mv (.c (.int .i64 0))⟩]) (.block 0 (.loop n23_0 l23_0))) (.seq (.reg [⟨(some 4), 0, none, .mv (.c (.bool true))⟩]) .ret))))
def rs23 : List (Nat × Option Nat × Mode) := [(4, none, .plain)]
theorem chk23 : chkC Try.prog Try.f23.ntmps b23 (Try.f23.body.getD .skip) = true := by decide +kernel
theorem top23 {args : List Arg} {out : Out} (ha : args.length.ble Try.f23.ntmps = true) (h8 : args.length.ble 8 = true) (mss : List (List (Option Nat))) (hb : backOK args out.back)
    (hw : rnC Try.prog b23 (topQ rs23 args mss out) (slotsOf (argsAV argBase args 0) 0) (argsOb argBase args 0)) : CW Try.prog 23 args out :=
  CW.of Try.func23 rs23 mss (by decide +kernel) (by decide +kernel) (by decide +kernel) ha h8 chk23 hb hw
def sameR (a b : Rec) : Bool :=
  decide (a.kind = b.kind) && decide (a.lo = b.lo) && decide (a.hi = b.hi) && decide (a.n = b.n) && decide (a.to = b.to) && decide (a.name.data.toList = b.name.data.toList) && decide (a.other.data.toList = b.other.data.toList) && decide ((a.weight : Int) = b.weight)
theorem w46 (a b : Rec) (ha : a.to.length < 9223372036854775808) (hb : b.to.length < 9223372036854775808) (Q : Ex → Slots → LH → Prop) (hQ : ∀ σ H, Slots.get σ 4 = .c (.bool (sameR a b)) → Q .ret σ H) : rnC Try.prog b46 Q [(0, .c (Rec.cv a)), (1, .c (Rec.cv b))] [] := by
  unfold b46
  simp only [go_sem, ↓reduceIte, Nat.reduceEqDiff, Nat.reduceMul, Nat.reduceAdd, Nat.reduceDiv, Nat.reduceSub, Nat.reduceLT, Nat.reduceLeDiff, Int.reduceLE, Int.reduceLT, Int.reduceToNat, Int.reduceEq]
  refine callK_1 _ (fun _ => cw20 a.to b.to ha hb) (by simp only [go_sem, ↓reduceIte, Nat.reduceEqDiff, Nat.reduceMul, Nat.reduceAdd, Nat.reduceDiv, Nat.reduceSub, Nat.reduceLT, Nat.reduceLeDiff, Int.reduceLE, Int.reduceLT, Int.reduceToNat, Int.reduceEq]) rfl rfl ?_
  simp only [go_sem, ↓reduceIte, Nat.reduceEqDiff, Nat.reduceMul, Nat.reduceAdd, Nat.reduceDiv, Nat.reduceSub, Nat.reduceLT, Nat.reduceLeDiff, Int.reduceLE, Int.reduceLT, Int.reduceToNat, Int.reduceEq]
  repeat (refine ⟨by (first | omega | (intro h1 h2; exact ⟨h1, h2⟩) | (intro h1; omega) | (intro h1; exact h1) | trivial), ?_⟩)
  refine callK_1 _ (fun _ => cw69 _) (by simp only [go_sem, ↓reduceIte, Nat.reduceEqDiff, Nat.reduceMul, Nat.reduceAdd, Nat.reduceDiv, Nat.reduceSub, Nat.reduceLT, Nat.reduceLeDiff, Int.reduceLE, Int.reduceLT, Int.reduceToNat, Int.reduceEq]) rfl rfl ?_
  simp only [go_sem, ↓reduceIte, Nat.reduceEqDiff, Nat.reduceMul, Nat.reduceAdd, Nat.reduceDiv, Nat.reduceSub, Nat.reduceLT, Nat.reduceLeDiff, Int.reduceLE, Int.reduceLT, Int.reduceToNat, Int.reduceEq]
  repeat (refine ⟨by (first | omega | (intro h1 h2; exact ⟨h1, h2⟩) | (intro h1; omega) | (intro h1; exact h1) | trivial), ?_⟩)
  refine callK_1 _ (fun _ => cw69 _) (by simp only [go_sem, ↓reduceIte, Nat.reduceEqDiff, Nat.reduceMul, Nat.reduceAdd, Nat.reduceDiv, Nat.reduceSub, Nat.reduceLT, Nat.reduceLeDiff, Int.reduceLE, Int.reduceLT, Int.reduceToNat, Int.reduceEq]) rfl rfl ?_
  simp only [go_sem, ↓reduceIte, Nat.reduceEqDiff, Nat.reduceMul, Nat.reduceAdd, Nat.reduceDiv, Nat.reduceSub, Nat.reduceLT, Nat.reduceLeDiff, Int.reduceLE, Int.reduceLT, Int.reduceToNat, Int.reduceEq]
  repeat (refine ⟨by (first | omega | (intro h1 h2; exact ⟨h1, h2⟩) | (intro h1; omega) | (intro h1; exact h1) | trivial), ?_⟩)
  apply hQ
  simp only [go_sem, ↓reduceIte, Nat.reduceEqDiff, Nat.reduceMul, Nat.reduceAdd, Nat.reduceDiv, Nat.reduceSub, Nat.reduceLT, Nat.reduceLeDiff, Int.reduceLE, Int.reduceLT, Int.reduceToNat, Int.reduceEq, sameR]
  rw [Bool.beq_eq_decide_eq]
theorem cw46 (a b : Rec) (ha : a.to.length < 9223372036854775808) (hb : b.to.length < 9223372036854775808) : CW Try.prog 46 [.cv (Rec.cv a), .cv (Rec.cv b)] ⟨[.cv (.bool (sameR a b))], []⟩ :=
  top46 rfl rfl [] trivial (w46 a b ha hb _ fun σ H h => ret1 rfl h)
def sameL : List Rec → List Rec → Bool
  | [], [] => true
  | a :: s, b :: t => sameR a b && sameL s t
  | _, _ => false
theorem sameL_len : ∀ {s t : List Rec}, ¬ s.length = t.length → sameL s t = false
  | [], [], h => absurd rfl h
  | [], _ :: _, _ => rfl
  | _ :: _, [], _ => rfl
  | a :: s, b :: t, h => by
    rw [sameL, sameL_len (by simpa using h), Bool.and_false]
theorem sameR_self (a : Rec) : sameR a a = true := by simp [sameR]
theorem sameL_self : ∀ s : List Rec, sameL s s = true
  | [] => rfl
  | a :: s => by rw [sameL, sameR_self, sameL_self s]; rfl
theorem w23 (a b : List Rec) (ha : a.length < 9223372036854775808) (hb : b.length < 9223372036854775808) (hta : ∀ r ∈ a, r.to.length ≤ 35184372088832) (htb : ∀ r ∈ b, r.to.length ≤ 35184372088832) (Q : Ex → Slots → LH → Prop) (hQ : ∀ σ H, Slots.get σ 4 = .c (.bool (sameL a b)) → Q .ret σ H) : rnC Try.prog b23 Q [(0, .c (.sl 8 (recs a))), (1, .c (.sl 8 (recs b)))] [] := by
  unfold b23
  simp only [go_sem, ↓reduceIte, Nat.reduceEqDiff, Nat.reduceMul, Nat.reduceAdd, Nat.reduceDiv, Nat.reduceSub, Nat.reduceLT, Nat.reduceLeDiff, Int.reduceLE, Int.reduceLT, Int.reduceToNat, Int.reduceEq]
  refine ⟨fun h => ?_, fun h => ?_⟩
  · apply hQ
    all_goals simp only [go_sem, ↓reduceIte, Nat.reduceEqDiff, Nat.reduceMul, Nat.reduceAdd, Nat.reduceDiv, Nat.reduceSub, Nat.reduceLT, Nat.reduceLeDiff, Int.reduceLE, Int.reduceLT, Int.reduceToNat, Int.reduceEq]
    rw [sameL_len (by omega)]
  refine loopR.by (α := Nat) (fun i => [(0, .c (.sl 8 (recs a))), (1, .c (.sl 8 (recs b))), (5, .c (.int .i64 i))]) (fun i => []) (fun i => a.length - i) (fun i => i ≤ a.length ∧ (sameL (a.drop i) (b.drop i) = sameL a b)) 0 ⟨Nat.zero_le _, rfl⟩ ?_ ?_
  · intro Y hY
    simp only [go_sem, ↓reduceIte, Nat.reduceEqDiff, Nat.reduceMul, Nat.reduceAdd, Nat.reduceDiv, Nat.reduceSub, Nat.reduceLT, Nat.reduceLeDiff, Int.reduceLE, Int.reduceLT, Int.reduceToNat, Int.reduceEq, n23_0]
    exact hY
  intro i hk Y hY
  unfold l23_0
  rcases Nat.lt_or_ge i (a.length) with hlt | hge
  · have hlb : i < b.length := by omega
    obtain ⟨r, e, hm, hd⟩ := recs_at hlt
    obtain ⟨r', e', hm', hd'⟩ := recs_at hlb
    have hf := hk.2
    rw [hd, hd', sameL] at hf
    simp only [go_sem, ↓reduceIte, Nat.reduceEqDiff, Nat.reduceMul, Nat.reduceAdd, Nat.reduceDiv, Nat.reduceSub, Nat.reduceLT, Nat.reduceLeDiff, Int.reduceLE, Int.reduceLT, Int.reduceToNat, Int.reduceEq, n23_0, e, e']
    refine ⟨fun _ => ⟨by omega, by omega, ?_⟩, fun h => by omega⟩
    refine callK_1 _ (fun _ => cw46 r r' (by have := hta r hm; omega) (by have := htb r' hm'; omega)) (by simp only [go_sem, ↓reduceIte, Nat.reduceEqDiff, Nat.reduceMul, Nat.reduceAdd, Nat.reduceDiv, Nat.reduceSub, Nat.reduceLT, Nat.reduceLeDiff, Int.reduceLE, Int.reduceLT, Int.reduceToNat, Int.reduceEq]) rfl rfl ?_
    simp only [go_sem, ↓reduceIte, Nat.reduceEqDiff, Nat.reduceMul, Nat.reduceAdd, Nat.reduceDiv, Nat.reduceSub, Nat.reduceLT, Nat.reduceLeDiff, Int.reduceLE, Int.reduceLT, Int.reduceToNat, Int.reduceEq, e, e']
    repeat (refine ⟨by (first | omega | (intro h1 h2; exact ⟨h1, h2⟩) | (intro h1; omega) | (intro h1; exact h1) | trivial), ?_⟩)
    rw [succ64 hlt (by omega)]
    refine ⟨fun h1 => ?_, fun h1 => hY (i + 1) ⟨hlt, ?_⟩ (by omega)⟩
    · rw [h1, Bool.false_and] at hf
      apply hQ
      all_goals simp only [go_sem, ↓reduceIte, Nat.reduceEqDiff, Nat.reduceMul, Nat.reduceAdd, Nat.reduceDiv, Nat.reduceSub, Nat.reduceLT, Nat.reduceLeDiff, Int.reduceLE, Int.reduceLT, Int.reduceToNat, Int.reduceEq, ← hf]
    · rw [h1, Bool.true_and] at hf
      exact hf
  · have hlen : i = a.length := by omega
    have hf := hk.2
    rw [hlen, List.drop_length, show a.length = b.length by omega, List.drop_length] at hf
    simp only [go_sem, ↓reduceIte, Nat.reduceEqDiff, Nat.reduceMul, Nat.reduceAdd, Nat.reduceDiv, Nat.reduceSub, Nat.reduceLT, Nat.reduceLeDiff, Int.reduceLE, Int.reduceLT, Int.reduceToNat, Int.reduceEq, n23_0]
    exact ⟨fun h => by omega, fun _ => hQ _ _ (by rw [← hf]; rfl)⟩
theorem cw23 (a b : List Rec) (ha : a.length < 9223372036854775808) (hb : b.length < 9223372036854775808) (hta : ∀ r ∈ a, r.to.length ≤ 35184372088832) (htb : ∀ r ∈ b, r.to.length ≤ 35184372088832) : CW Try.prog 23 [.cv (.sl 8 (recs a)), .cv (.sl 8 (recs b))] ⟨[.cv (.bool (sameL a b))], []⟩ :=
  top23 rfl rfl [] trivial (w23 a b ha hb hta htb _ fun σ H h => ret1 rfl h)
def recP (k lo hi n : Int) (to : List Int) : Rec := ⟨k, lo, hi, n, to, ⟨#[]⟩, ⟨#[]⟩, 0⟩
theorem CW.pubRes3 {P : Program} {f : FuncId} {args : List Arg} {e : Nat} {xs : List CV} {a b : CV} (hu : unlent args = true) (h : CW P f args ⟨[.own e xs, .cv a, .cv b], []⟩) : CW P f args ⟨[.cv (.sl e xs), .cv a, .cv b], []⟩ := by
  obtain ⟨hf, hb, h⟩ := h
  refine ⟨hf, hb, fun ι S w vals hl hav hhr => ?_⟩
  refine (h ι S w vals hl hav hhr).mono fun en w' hp => ?_
  obtain ⟨v, ι', S', rfl, r1, r2, r3, r4, r5, r6, r7⟩ := hp
  have e1 : retOb args ⟨[.own e xs, .cv a, .cv b], []⟩ = [(retBase, .row e xs)] := by
    simp only [retOb, List.map_cons, List.map_nil, OC.arg, argsOb, Arg.ob, argsOb_back argBase args 0 hu, List.append_nil, Nat.mul_zero, Nat.add_zero]
  have e2 : retOb args ⟨[.cv (.sl e xs), .cv a, .cv b], []⟩ = [] := by
    simp only [retOb, List.map_cons, List.map_nil, OC.arg, argsOb, Arg.ob, argsOb_back argBase args 0 hu, List.append_nil]
  rw [e1] at r1 r2 r4
  have hg : LH.get [(retBase, LObj.row e xs)] retBase = some (.row e xs) := by simp [LH.get]
  have hrow := r2.row _ _ _ hg
  have r1 : AVR ι' [(retBase, LObj.row e xs)] S' w' (.tup [.osl retBase 0 xs.length, .c a, .c b]) v := r1
  obtain ⟨us, rfl, hus, hu0⟩ : ∃ us : Array Value, v = .tuple us ∧ us.size = 3 ∧ ∀ i, i < 3 → AVR ι' [(retBase, LObj.row e xs)] S' w' ([AV.osl retBase 0 xs.length, .c a, .c b].getD i (.c .undef)) (us.getD i Go.undef) := by
    cases r1 with | tup _ us h1 h2 => exact ⟨us, rfl, h1, h2⟩
  have f0 : AVR ι' [(retBase, LObj.row e xs)] S' w' (.osl retBase 0 xs.length) (us.getD 0 Go.undef) := hu0 0 (by decide)
  have f1 : AVR ι' [(retBase, LObj.row e xs)] S' w' (.c a) (us.getD 1 Go.undef) := hu0 1 (by decide)
  have f2 : AVR ι' [(retBase, LObj.row e xs)] S' w' (.c b) (us.getD 2 Go.undef) := hu0 2 (by decide)
  have g1 : VR w' S' a (us.getD 1 Go.undef) := by cases f1 with | c _ _ h => exact h
  have g2 : VR w' S' b (us.getD 2 Go.undef) := by cases f2 with | c _ _ h => exact h
  refine ⟨.tuple us, ι', fun b o => S' b o ∨ pubS (ι' retBase) e b o, rfl, ?_, ?_, r3, ?_, fun b _ hb => .inl (r5 b hb), fun b o hb => ?_, r7⟩
  · rw [e2]
    refine .tup [.c (.sl e xs), .c a, .c b] us hus fun i hi => ?_
    match i, hi with
    | 0, _ => exact .c _ _ (osl_vr hg f0 hrow)
    | 1, _ => exact .c _ _ (g1.mono fun b o x hs hx => ⟨.inl hs, hx⟩)
    | 2, _ => exact .c _ _ (g2.mono fun b o x hs hx => ⟨.inl hs, hx⟩)
  · rw [e2]
    refine ⟨fun id cs h => (by cases h), fun id e xs h => (by cases h), fun id e xs h => (by cases h), fun i j hi => (by cases hi), fun i hi => (by cases hi), fun i hi => (by cases hi), fun b o hb => ?_⟩
    rcases hb with hb | ⟨hn, rfl, -, -⟩
    · exact r2.slt b hb
    · exact r2.lt retBase (by unfold Owned; rw [hg]; exact hn)
  · intro id hid
    rw [e2] at hid
    cases hid
  · rcases hb with hb | hb
    · exact r6 b hb
    · have hz := hrow.fz hb
      obtain ⟨hn, rfl, -, -⟩ := hb
      exact .inr ⟨r4 retBase (by unfold Owned; rw [hg]; exact hn), hz⟩
theorem callK_O3 {P : Program} {g : Prop} {f : FuncId} {H : List (Nat × LObj)} {u : Nat} {K : AV → List (Nat × LObj) → Prop} {b : Bar K} {args : List Arg} {H' : List (Nat × LObj)} {e : Nat} {xs : List CV} {v v' : CV}
    (h : g → CW P f args ⟨[.own e xs, .cv v, .cv v'], []⟩) (hu : freshC H u) (h8 : args.length.ble 8 = true) (hun : unlent args = true) (hk : K (.tup [.osl (64 * u) 0 xs.length, .c v, .c v']) [(64 * u, .row e xs)]) : callK P g f H u K b args [] [] H' := by
  refine ⟨_, h, by simp, .inl rfl, ⟨hu, Nat.le_of_ble_eq_true h8, by simp, by simp⟩, ?_⟩
  simp only [back_none args 0 hun]
  exact hk
def b34 : IC := (.seq (.reg [⟨(some 0), 0, none, .mv (.c (.bool false))⟩]) (.seq (.reg [⟨(some 8), 0, none, .bld [(.int .i64 0), (.int .i64 0), (.int .i64 0), (.int .i64 0), (.sl 1 []), (.str ⟨#[]⟩), (.str ⟨#[]⟩), (.flt 0)] [(0, (.c (.int .i64 1))), (1, (.c (.int .i64 97))), (2, (.c (.int .i64 122)))]⟩,
  ⟨(some 9), 1, none, .bsl 8 [(.t 8)]⟩,
  ⟨(some 1), 0, none, .mv (.t 9)⟩]) (.seq (.pub 1 (.reg [⟨(some 11), 0, none, .mv (.t 1)⟩,
  ⟨(some 12), 2, none, .call (.c (.fn 32)) [((.t 11), .view 8)]⟩,
  ⟨(some 10), 0, none, .mv (.t 12)⟩,
  ⟨(some 13), 0, none, .ext (.t 10) 0⟩,
  ⟨(some 14), 0, none, .ext (.t 10) 1⟩,
  ⟨(some 15), 0, none, .ext (.t 10) 2⟩,
  ⟨(some 2), 0, none, .mv (.t 13)⟩,
  ⟨(some 3), 0, none, .mv (.t 14)⟩,
  ⟨(some 4), 0, none, .mv (.t 15)⟩])) (.seq (.reg [⟨(some 17), 0, none, .mv (.t 2)⟩,
  ⟨(some 18), 12, none, .call (.c (.fn 37)) [((.t 17), .view 1)]⟩,
  ⟨(some 16), 0, none, .mv (.t 18)⟩,
  ⟨(some 19), 0, none, .ext (.t 16) 0⟩,
  ⟨(some 20), 0, none, .ext (.t 16) 1⟩,
  ⟨(some 21), 0, none, .ext (.t 16) 2⟩,
  ⟨(some 5), 0, none, .mv (.t 19)⟩,
  ⟨(some 6), 0, none, .mv (.t 20)⟩,
  ⟨(some 7), 0, none, .mv (.t 21)⟩]) (.seq (.reg [⟨(some 22), 0, none, .mv (.t 4)⟩,
  ⟨(some 23), 0, none, .bin .eql (.t 22) (.c (.int .i64 0))⟩,
  ⟨(some 24), 0, none, .mv (.t 23)⟩,
  ⟨(some 25), 0, (some (24, true)), .mv (.t 7)⟩,
  ⟨(some 26), 0, (some (24, true)), .bin .eql (.t 25) (.c (.int .i64 0))⟩,
  ⟨(some 27), 0, none, .pick (.t 24) (.t 26) (.c (.bool false))⟩,
  ⟨(some 28), 0, none, .mv (.t 27)⟩,
  ⟨(some 29), 0, (some (28, true)), .mv (.t 2)⟩,
  ⟨(some 30), 0, (some (28, true)), .len false (.t 29)⟩,
  ⟨(some 31), 0, (some (28, true)), .bin .eql (.t 30) (.c (.int .i64 13))⟩,
  ⟨(some 32), 0, none, .pick (.t 28) (.t 31) (.c (.bool false))⟩,
  ⟨(some 33), 0, none, .mv (.t 32)⟩,
  ⟨(some 34), 0, (some (33, true)), .mv (.t 2)⟩,
  ⟨(some 35), 0, (some (33, true)), .slc (.t 34) none (some (.c (.int .i64 9))) none 1⟩,
  ⟨(some 36), 0, (some (33, true)), .b2s (.t 35)⟩,
  ⟨(some 37), 0, (some (33, true)), .bin .eql (.t 36) (.c (.str ⟨#[101, 110, 100, 111, 1, 1, 1, 97, 25]⟩))⟩,
  ⟨(some 38), 0, none, .pick (.t 33) (.t 37) (.c (.bool false))⟩,
  ⟨(some 39), 0, none, .mv (.t 38)⟩,
  ⟨(some 40), 0, (some (39, true)), .mv (.t 1)⟩,
  ⟨(some 41), 0, (some (39, true)), .mv (.t 5)⟩,
  ⟨(some 42), 22, (some (39, true)), .call (.c (.fn 23)) [((.t 40), .view 8), ((.t 41), .view 8)]⟩,
  ⟨(some 43), 0, none, .pick (.t 39) (.t 42) (.c (.bool false))⟩,
  ⟨(some 0), 0, none, .mv (.t 43)⟩]) .ret)))))
def rs34 : List (Nat × Option Nat × Mode) := [(0, none, .plain)]
theorem chk34 : chkC Try.prog Try.f34.ntmps b34 (Try.f34.body.getD .skip) = true := by decide +kernel
theorem top34 {args : List Arg} {out : Out} (ha : args.length.ble Try.f34.ntmps = true) (h8 : args.length.ble 8 = true) (mss : List (List (Option Nat))) (hb : backOK args out.back)
    (hw : rnC Try.prog b34 (topQ rs34 args mss out) (slotsOf (argsAV argBase args 0) 0) (argsOb argBase args 0)) : CW Try.prog 34 args out :=
  CW.of Try.func34 rs34 mss (by decide +kernel) (by decide +kernel) (by decide +kernel) ha h8 chk34 hb hw
def toldL : List Rec := [recP 1 97 122 0 []]
def toldB : List UInt8 := (packF toldL).1
theorem told_pack : packF toldL = (toldB, 0, 0) := by decide +kernel
deriving instance DecidableEq for Rec
theorem told_unpack : unpackF toldB = (toldL, 0, 0) := by decide +kernel
theorem told_len : toldB.length = 13 := by decide +kernel
theorem told_head : toldB.take 9 = [101, 110, 100, 111, 1, 1, 1, 97, 25] := by decide +kernel
theorem told_ok : (∀ r ∈ toldL, r.ok) ∧ (∀ r ∈ toldL, r.wok) ∧ ∀ r ∈ toldL, r.to.length ≤ 35184372088832 := by
  simp [toldL, recP, Rec.ok, Rec.wok, i64ok]
theorem w34  (Q : Ex → Slots → LH → Prop) (hQ : ∀ σ H, Slots.get σ 0 = .c (.bool true) → Q .ret σ H) : rnC Try.prog b34 Q [] [] := by
  unfold b34
  simp only [go_sem, ↓reduceIte, Nat.reduceEqDiff, Nat.reduceMul, Nat.reduceAdd, Nat.reduceDiv, Nat.reduceSub, Nat.reduceLT, Nat.reduceLeDiff, Int.reduceLE, Int.reduceLT, Int.reduceToNat, Int.reduceEq]
  refine callK_3 _ _ _ (fun _ => (cw32 toldL told_ok.1 told_ok.2.1 told_ok.2.2).pubRes3 rfl) (by simp only [go_sem, ↓reduceIte, Nat.reduceEqDiff, Nat.reduceMul, Nat.reduceAdd, Nat.reduceDiv, Nat.reduceSub, Nat.reduceLT, Nat.reduceLeDiff, Int.reduceLE, Int.reduceLT, Int.reduceToNat, Int.reduceEq]) rfl rfl ?_
  simp only [go_sem, ↓reduceIte, Nat.reduceEqDiff, Nat.reduceMul, Nat.reduceAdd, Nat.reduceDiv, Nat.reduceSub, Nat.reduceLT, Nat.reduceLeDiff, Int.reduceLE, Int.reduceLT, Int.reduceToNat, Int.reduceEq]
  repeat (refine ⟨by (first | omega | (intro h1 h2; exact ⟨h1, h2⟩) | (intro h1; omega) | (intro h1; exact h1) | trivial), ?_⟩)
  rw [told_pack]
  refine callK_3 _ _ _ (fun _ => (cw37 toldB (by decide +kernel)).pubRes3 rfl) (by simp only [go_sem, ↓reduceIte, Nat.reduceEqDiff, Nat.reduceMul, Nat.reduceAdd, Nat.reduceDiv, Nat.reduceSub, Nat.reduceLT, Nat.reduceLeDiff, Int.reduceLE, Int.reduceLT, Int.reduceToNat, Int.reduceEq]) rfl rfl ?_
  simp only [go_sem, ↓reduceIte, Nat.reduceEqDiff, Nat.reduceMul, Nat.reduceAdd, Nat.reduceDiv, Nat.reduceSub, Nat.reduceLT, Nat.reduceLeDiff, Int.reduceLE, Int.reduceLT, Int.reduceToNat, Int.reduceEq]
  repeat (refine ⟨by (first | omega | (intro h1 h2; exact ⟨h1, h2⟩) | (intro h1; omega) | (intro h1; exact h1) | trivial), ?_⟩)
  rw [told_unpack]
  have e9 : List.take 9 (bys toldB) = bys [101, 110, 100, 111, 1, 1, 1, 97, 25] := by
    rw [← List.drop_zero (l := bys toldB), bys_cut, List.drop_zero, told_head]
  have e10 : (mkStr (bys [101, 110, 100, 111, 1, 1, 1, 97, 25])).data.toList = [101, 110, 100, 111, 1, 1, 1, 97, 25] := by decide +kernel
  rw [e9, e10, told_len]
  refine ⟨bys_isU8 _, ?_⟩
  refine callK_1 _ (fun _ => cw23 toldL toldL (by decide) (by decide) told_ok.2.2 told_ok.2.2) (by simp only [go_sem, ↓reduceIte, Nat.reduceEqDiff, Nat.reduceMul, Nat.reduceAdd, Nat.reduceDiv, Nat.reduceSub, Nat.reduceLT, Nat.reduceLeDiff, Int.reduceLE, Int.reduceLT, Int.reduceToNat, Int.reduceEq]) rfl rfl ?_
  simp only [go_sem, ↓reduceIte, Nat.reduceEqDiff, Nat.reduceMul, Nat.reduceAdd, Nat.reduceDiv, Nat.reduceSub, Nat.reduceLT, Nat.reduceLeDiff, Int.reduceLE, Int.reduceLT, Int.reduceToNat, Int.reduceEq]
  repeat (refine ⟨by (first | omega | (intro h1 h2; exact ⟨h1, h2⟩) | (intro h1; omega) | (intro h1; exact h1) | trivial), ?_⟩)
  apply hQ
  simp only [go_sem, ↓reduceIte, Nat.reduceEqDiff, Nat.reduceMul, Nat.reduceAdd, Nat.reduceDiv, Nat.reduceSub, Nat.reduceLT, Nat.reduceLeDiff, Int.reduceLE, Int.reduceLT, Int.reduceToNat, Int.reduceEq, sameL_self]
  rfl
theorem cw34  : CW Try.prog 34 [] ⟨[.cv (.bool true)], []⟩ :=
  top34 rfl rfl [] trivial (w34  _ fun σ H h => ret1 rfl h)
def Rd (b : List UInt8) (a e : Int) (w : List UInt8) : Prop := (0 ≤ a ∧ a ≤ b.length) ∧ e = a + w.length ∧ b.drop a.toNat = w ++ b.drop e.toNat
theorem Rd.le {b w : List UInt8} {a e : Int} (h : Rd b a e w) : 0 ≤ e ∧ e ≤ b.length := by
  obtain ⟨h0, h1, h2⟩ := h
  have := congrArg List.length h2
  simp only [List.length_drop, List.length_append] at this
  omega
theorem Rd.of {b w q : List UInt8} {a : Int} (ha : 0 ≤ a ∧ a ≤ b.length) (h : b.drop a.toNat = w ++ q) : Rd b a (a + w.length) w := by
  refine ⟨ha, rfl, ?_⟩
  have : b.drop (a + (w.length : Int)).toNat = q := by
    rw [show (a + (w.length : Int)).toNat = w.length + a.toNat by omega, Nat.add_comm, ← List.drop_drop, h, List.drop_left]
  rw [this, h]
theorem Rd.nil {b : List UInt8} {a : Int} (ha : 0 ≤ a ∧ a ≤ b.length) : Rd b a a [] := ⟨ha, by simp, rfl⟩
theorem Rd.app {b w v : List UInt8} {a m e : Int} (h : Rd b a m w) (h' : Rd b m e v) : Rd b a e (w ++ v) := by
  obtain ⟨h0, h1, h2⟩ := h
  obtain ⟨g0, g1, g2⟩ := h'
  exact ⟨h0, by rw [List.length_append]; omega, by rw [h2, g2, List.append_assoc]⟩
theorem by8_small {m : Nat} (h : m < 256) : (by8 (m : Int)).toNat = m := by have := by8_nat (m : Int); omega
theorem by8_u8 (c : UInt8) : by8 ((c.toNat : Nat) : Int) = c := by
  apply UInt8.toNat_inj.1
  rw [by8_small c.toNat_lt]
theorem rdGo_back (a : Int) : ∀ (k : Nat) (l : List UInt8) (n : Nat) (v e : Int), k ≤ 9 → rdGo a k l n = (v, e, 0) →
    ∃ (m : Nat) (q : List UInt8), l = uintL m ++ q ∧ v = ((n + m * 128 ^ (9 - k) : Nat) : Int) ∧ e = a + ((9 - k : Nat) : Int) + (uintL m).length ∧ (k < 9 → m ≠ 0)
  | 0, l, n, v, e, hk, h => by simp [rdGo] at h
  | k + 1, [], n, v, e, hk, h => by simp [rdGo] at h
  | k + 1, c :: t, n, v, e, hk, h => by
    have hc := c.toNat_lt
    rw [rdGo] at h
    by_cases h1 : c.toNat < 128
    · rw [if_pos h1] at h
      by_cases h2 : c.toNat = 0 ∧ k < 8
      · rw [if_pos h2] at h; simp at h
      · rw [if_neg h2] at h
        have e1 : uintL c.toNat = [c] := by rw [uintL, dif_pos h1, by8_u8]
        injection h with h3 h4
        injection h4 with h4 h5
        refine ⟨c.toNat, t, by rw [e1]; rfl, ?_, ?_, fun h => by omega⟩
        · rw [← h3, show 9 - (k + 1) = 8 - k by omega]
        · rw [e1, ← h4, show 9 - (k + 1) = 8 - k by omega]; rfl
    · rw [if_neg h1] at h
      obtain ⟨m, q, h3, h4, h5, h6⟩ := rdGo_back a k t _ v e (by omega) h
      have hm : m ≠ 0 := h6 (by omega)
      have e1 : uintL (c.toNat - 128 + 128 * m) = c :: uintL m := by
        rw [uintL, dif_neg (by omega), show (c.toNat - 128 + 128 * m) % 128 + 128 = c.toNat by omega, show (c.toNat - 128 + 128 * m) / 128 = m by omega, by8_u8]
      refine ⟨c.toNat - 128 + 128 * m, q, by rw [e1, h3]; rfl, ?_, ?_, fun _ => by omega⟩
      · rw [h4, show 9 - (k + 1) = 8 - k by omega, show 9 - k = 8 - k + 1 by omega, Nat.pow_succ, Nat.add_assoc, Nat.add_mul, Nat.mul_comm 128 m, Nat.mul_assoc m 128, Nat.mul_comm 128 (128 ^ (8 - k))]
      · rw [h5, e1, List.length_cons]; omega
theorem rdU_back {b : List UInt8} {a : Int} (h : (rdU b a).2.2 = 0) : Rd b a (rdU b a).2.1 (uintP (rdU b a).1) ∧ 0 ≤ (rdU b a).1 ∧ (rdU b a).1 < 9223372036854775808 := by
  have hs := (rdU_spec b a).1 h
  refine ⟨?_, hs.2.1, hs.2.2.1⟩
  have hx : rdU b a = ((rdU b a).1, (rdU b a).2.1, 0) := Prod.ext rfl (Prod.ext rfl h)
  generalize (rdU b a).1 = v at *
  generalize (rdU b a).2.1 = e at *
  unfold rdU at hx
  rw [if_neg (by omega)] at hx
  obtain ⟨m, q, h1, h2, h3, -⟩ := rdGo_back a 9 _ 0 v e (by decide) hx
  have ev : uintP v = uintL m := by rw [h2, show 0 + m * 128 ^ (9 - 9) = m by simp, uintP_nat]
  rw [ev, show e = a + ((uintL m).length : Int) by simpa using h3]
  exact Rd.of hs.1 h1
theorem rdT_back {b : List UInt8} {a most : Int} (h : (rdT b a most).2.2 = 0) : Rd b a (rdT b a most).2.1 (textL (rdT b a most).1) ∧ ((rdT b a most).1.size : Int) ≤ most := by
  unfold rdT at h ⊢
  by_cases h1 : (a < 0 ∨ (b.length : Int) < a) ∨ most < 0
  · rw [if_pos h1] at h; simp at h
  rw [if_neg h1] at h ⊢
  by_cases h2 : (rdU b a).2.2 ≠ 0
  · rw [if_pos h2] at h; exact absurd h h2
  rw [if_neg h2] at h ⊢
  by_cases h3 : most < (rdU b a).1
  · rw [if_pos h3] at h; simp at h
  rw [if_neg h3] at h ⊢
  by_cases h4 : (b.length : Int) - (rdU b a).2.1 < (rdU b a).1
  · rw [if_pos h4] at h; simp at h
  rw [if_neg h4]
  obtain ⟨g1, g2, g3⟩ := rdU_back (b := b) (a := a) (by simpa using h2)
  have g4 := g1.le
  generalize (rdU b a).1 = v at *
  generalize (rdU b a).2.1 = m at *
  have hl : (cutL b m v).length = v.toNat := by unfold cutL; rw [List.length_take, List.length_drop]; omega
  have hz : (strOf (cutL b m v)).size = v.toNat := by rw [← hl]; simp [strOf, ByteArray.size]
  refine ⟨?_, by simp only; omega⟩
  have e1 : textL (strOf (cutL b m v)) = uintP v ++ cutL b m v := by
    unfold textL
    rw [hz, show uintP v = uintL v.toNat by unfold uintP; rw [if_neg (by omega)]]
    rfl
  simp only [e1]
  refine g1.app ⟨g4, ?_, ?_⟩
  · rw [hl]; omega
  · unfold cutL
    rw [show (m + v).toNat = v.toNat + m.toNat by omega, Nat.add_comm, ← List.drop_drop, List.take_append_drop]
theorem leV_inj : ∀ (x y : List UInt8), x.length = y.length → leV x = leV y → x = y
  | [], [], _, _ => rfl
  | [], _ :: _, h, _ => by simp at h
  | _ :: _, [], h, _ => by simp at h
  | c :: x, d :: y, h, e => by
    have := c.toNat_lt
    have := d.toNat_lt
    simp only [leV] at e
    have h1 : c = d := UInt8.toNat_inj.1 (by omega)
    have h2 := leV_inj x y (by simpa using h) (by omega)
    rw [h1, h2]
theorem leV_float {u : Nat} (hu : u < 18446744073709551616) : leV (floatL u) = u := by
  have s : ∀ m : Nat, (by8 (m : Int)).toNat = m % 256 := fun m => by have := by8_nat (m : Int); omega
  unfold floatL floatI
  simp only [show List.range 8 = [0, 1, 2, 3, 4, 5, 6, 7] from rfl, List.map_cons, List.map_nil, leV]
  simp only [show (0 < 8) = True by simp, show (1 < 8) = True by simp, show (2 < 8) = True by simp, show (3 < 8) = True by simp, show (4 < 8) = True by simp, show (5 < 8) = True by simp, show (6 < 8) = True by simp, show (7 < 8) = True by simp, if_true, s, Nat.reducePow]
  omega
theorem float_leV {x : List UInt8} (h : x.length = 8) : floatL (leV x) = x := by
  have h1 := leV_lt x
  rw [h] at h1
  exact leV_inj _ _ (by rw [h]; exact floatI_len _ _) (leV_float (by simpa using h1))
theorem rdF_back {b : List UInt8} {a : Int} (h : (rdF b a).2.2 = 0) : Rd b a (rdF b a).2.1 (floatL (rdF b a).1) := by
  unfold rdF at h ⊢
  by_cases h1 : a < 0 ∨ (b.length : Int) < a
  · rw [if_pos h1] at h; simp at h
  rw [if_neg h1] at h ⊢
  by_cases h2 : (b.length : Int) - a < 8
  · rw [if_pos h2] at h; simp at h
  rw [if_neg h2]
  have hl : (cutL b a 8).length = 8 := by unfold cutL; rw [List.length_take, List.length_drop]; omega
  simp only [float_leV hl]
  refine ⟨by omega, by rw [hl]; rfl, ?_⟩
  unfold cutL
  rw [show (a + 8).toNat = 8 + a.toNat by omega, Nat.add_comm, ← List.drop_drop]
  exact (List.take_append_drop _ _).symm
theorem numP_back {b : List UInt8} {most : Int} {s : Int × Int} (h : (numP b most s).2.2 = 0) : s.2 = 0 ∧ Rd b s.1 (numP b most s).2.1 (uintP (numP b most s).1) ∧ 0 ≤ (numP b most s).1 ∧ (numP b most s).1 ≤ most := by
  unfold numP at h ⊢
  by_cases h1 : s.2 ≠ 0
  · rw [if_pos h1] at h; exact absurd h h1
  rw [if_neg h1] at h ⊢
  by_cases h2 : (rdU b s.1).2.2 ≠ 0
  · rw [if_pos h2] at h; exact absurd h h2
  rw [if_neg h2] at h ⊢
  by_cases h3 : most < (rdU b s.1).1
  · rw [if_pos h3] at h; simp at h
  rw [if_neg h3]
  obtain ⟨g1, g2, g3⟩ := rdU_back (b := b) (a := s.1) (by simpa using h2)
  exact ⟨by simpa using h1, g1, g2, by simp only; omega⟩
theorem textP_back {b : List UInt8} {s : Int × Int} (h : (textP b s).2.2 = 0) : s.2 = 0 ∧ Rd b s.1 (textP b s).2.1 (textL (textP b s).1) := by
  unfold textP at h ⊢
  by_cases h1 : s.2 ≠ 0
  · rw [if_pos h1] at h; exact absurd h h1
  rw [if_neg h1] at h ⊢
  have h : (rdT b s.1 4).2.2 = 0 := h
  simp only [if_pos h]
  exact ⟨by simpa using h1, (rdT_back h).1⟩
theorem fltP_back {b : List UInt8} {s : Int × Int} (h : (fltP b s).2.2 = 0) : s.2 = 0 ∧ Rd b s.1 (fltP b s).2.1 (floatL (fltP b s).1) := by
  unfold fltP at h ⊢
  by_cases h1 : s.2 ≠ 0
  · rw [if_pos h1] at h; exact absurd h h1
  rw [if_neg h1] at h ⊢
  have h : (rdF b s.1).2.2 = 0 := h
  simp only [if_pos h]
  exact ⟨by simpa using h1, rdF_back h⟩
theorem i32_small {c : Int} (h0 : 0 ≤ c) (h : c ≤ 1114111) : IntKind.i32.wrap c = c := by rw [wrap_i32]; omega
theorem listP_back {b : List UInt8} : ∀ (k : Nat) (s : Int × Int) (to : List Int), 0 ≤ s.1 ∧ s.1 ≤ b.length → (listP b k s to).1.2 = 0 →
    s.2 = 0 ∧ ∃ l : List Int, l.length = k ∧ (listP b k s to).2 = to ++ l ∧ Rd b s.1 (listP b k s to).1.1 (l.map uintP).flatten
  | 0, s, to, hs, h => ⟨h, [], rfl, by simp [listP], Rd.nil hs⟩
  | k + 1, s, to, hs, h => by
    rw [listP] at h ⊢
    by_cases h1 : s.2 ≠ 0
    · rw [if_pos h1] at h; exact absurd h h1
    rw [if_neg h1] at h ⊢
    obtain ⟨h2, l, h3, h4, h5⟩ := listP_back k _ _ (numP_at hs) h
    obtain ⟨g1, g2, g3, g4⟩ := numP_back h2
    refine ⟨g1, IntKind.i32.wrap (numP b 1114111 s).1 :: l, by rw [List.length_cons, h3], by rw [h4, List.append_assoc]; rfl, ?_⟩
    rw [List.map_cons, List.flatten_cons]
    rw [i32_small g3 g4] at h5 ⊢
    exact g2.app h5
theorem readF_82 (b : List UInt8) (s : Int × Int) (r : Rec) : readF 82 b s r = rLo b s r := rfl
theorem readF_85 (b : List UInt8) (s : Int × Int) (r : Rec) : readF 85 b s r = rHi b s r := rfl
theorem readF_87 (b : List UInt8) (s : Int × Int) (r : Rec) : readF 87 b s r = rN b s r := rfl
theorem readF_89 (b : List UInt8) (s : Int × Int) (r : Rec) : readF 89 b s r = rOne b s r := rfl
theorem readF_91 (b : List UInt8) (s : Int × Int) (r : Rec) : readF 91 b s r = rList b s r := rfl
theorem readF_94 (b : List UInt8) (s : Int × Int) (r : Rec) : readF 94 b s r = rName b s r := rfl
theorem readF_97 (b : List UInt8) (s : Int × Int) (r : Rec) : readF 97 b s r = rOther b s r := rfl
theorem readF_100 (b : List UInt8) (s : Int × Int) (r : Rec) : readF 100 b s r = rWt b s r := rfl
theorem writeF_81 (r : Rec) : writeF 81 r = uintP r.lo := rfl
theorem writeF_84 (r : Rec) : writeF 84 r = uintP (IntKind.i64.wrap (r.hi - r.lo)) := rfl
theorem writeF_86 (r : Rec) : writeF 86 r = uintP r.n := rfl
theorem writeF_88 (r : Rec) : writeF 88 r = uintP (r.to.getD 0 0) := rfl
theorem writeF_90 (r : Rec) : writeF 90 r = toL r.to := rfl
theorem writeF_92 (r : Rec) : writeF 92 r = textL r.name := rfl
theorem writeF_96 (r : Rec) : writeF 96 r = textL r.other := rfl
theorem writeF_98 (r : Rec) : writeF 98 r = floatL r.weight := rfl
theorem kind_groups {k : Int} (h : famK k ≠ 0) : (k = 1 ∨ k = 2 ∨ k = 11) ∨ k = 3 ∨ k = 4 ∨ (k = 5 ∨ k = 7 ∨ k = 8 ∨ k = 13) ∨ (k = 6 ∨ k = 9 ∨ k = 10) ∨ k = 12 ∨ k = 14 ∨ k = 15 := by
  unfold famK at h
  (repeat' split at h) <;> omega
theorem pA {k : Int} (h : k = 1 ∨ k = 2 ∨ k = 11) : parts8 k = [(81, 82), (84, 85)] := by rcases h with h | h | h <;> subst h <;> rfl
theorem pD {k : Int} (h : k = 5 ∨ k = 7 ∨ k = 8 ∨ k = 13) : parts8 k = [(81, 82), (90, 91)] := by rcases h with h | h | h | h <;> subst h <;> rfl
theorem pE {k : Int} (h : k = 6 ∨ k = 9 ∨ k = 10) : parts8 k = [(81, 82), (84, 85), (86, 87)] := by rcases h with h | h | h <;> subst h <;> rfl
theorem pB {k : Int} (h : k = 3) : parts8 k = [(81, 82), (84, 85), (90, 91)] := by subst h; rfl
theorem pC {k : Int} (h : k = 4) : parts8 k = [(81, 82), (84, 85), (86, 87), (88, 89)] := by subst h; rfl
theorem pF {k : Int} (h : k = 12) : parts8 k = [(81, 82), (84, 85), (92, 94)] := by subst h; rfl
theorem pG {k : Int} (h : k = 14) : parts8 k = [(81, 82), (84, 85), (98, 100)] := by subst h; rfl
theorem pH {k : Int} (h : k = 15) : parts8 k = [(92, 94), (96, 97), (98, 100)] := by subst h; rfl
theorem hi_back {lo v : Int} (h0 : 0 ≤ lo) (h1 : lo ≤ 1114111) (h2 : 0 ≤ v) (h3 : v ≤ 1114111) : IntKind.i64.wrap (IntKind.i64.wrap (lo + v) - lo) = v := by
  rw [wrap_i64, wrap_i64]; omega
theorem hi_rd {b : List UInt8} {a e lo v : Int} (h0 : 0 ≤ lo) (h1 : lo ≤ 1114111) (h2 : 0 ≤ v) (h3 : v ≤ 1114111) (h : Rd b a e (uintP v)) : Rd b a e (uintP (IntKind.i64.wrap (IntKind.i64.wrap (lo + v) - lo))) := by
  rw [hi_back h0 h1 h2 h3]; exact h
theorem one_rd {b : List UInt8} {a e v : Int} (h2 : 0 ≤ v) (h3 : v ≤ 1114111) (h : Rd b a e (uintP v)) : Rd b a e (uintP (IntKind.i32.wrap v)) := by
  rw [i32_small h2 h3]; exact h
theorem list_back {b : List UInt8} {s : Int × Int} {r : Rec} (hs : 0 ≤ s.1 ∧ s.1 ≤ b.length) (hto : r.to = []) (h : (rList b s r).1.2 = 0) : s.2 = 0 ∧ Rd b s.1 (rList b s r).1.1 (toL (rList b s r).2.to) := by
  unfold rList at h ⊢
  rw [hto] at h ⊢
  obtain ⟨h1, l, h2, h3, h4⟩ := listP_back _ _ [] (numP_at hs) h
  obtain ⟨g1, g2, g3, g4⟩ := numP_back h1
  refine ⟨g1, ?_⟩
  simp only
  rw [h3, List.nil_append]
  unfold toL
  rw [h2, show (((numP b 24 s).1.toNat : Nat) : Int) = (numP b 24 s).1 by omega]
  exact g2.app h4
theorem reads_back {b : List UInt8} {k a : Int} (ha : 0 ≤ a ∧ a ≤ b.length) (hn : parts8 k ≠ []) (h : (readsF b (parts8 k) (a, 0) (zeroR k)).1.2 = 0) :
    (readsF b (parts8 k) (a, 0) (zeroR k)).2.kind = k ∧ Rd b a (readsF b (parts8 k) (a, 0) (zeroR k)).1.1 ((parts8 k).flatMap fun p => writeF p.1 (readsF b (parts8 k) (a, 0) (zeroR k)).2) := by
  have hk : famK k ≠ 0 := by
    unfold parts8 at hn
    unfold famK
    (repeat' split at hn) <;> first | exact absurd rfl hn | ((repeat' split) <;> omega)
  rcases kind_groups hk with g | g | g | g | g | g | g | g
  · rw [pA g] at h ⊢
    simp only [readsF, readF_82, readF_85, List.flatMap_cons, List.flatMap_nil, List.append_nil, writeF_81, writeF_84] at h ⊢
    obtain ⟨h2, r2, a2, c2⟩ := numP_back h
    obtain ⟨h1, r1, a1, c1⟩ := numP_back h2
    exact ⟨rfl, r1.app (hi_rd a1 c1 a2 c2 r2)⟩
  · rw [pB g] at h ⊢
    simp only [readsF, readF_82, readF_85, readF_91, List.flatMap_cons, List.flatMap_nil, List.append_nil, writeF_81, writeF_84, writeF_90] at h ⊢
    obtain ⟨h3, r3⟩ := list_back (b := b) (numP_at (numP_at ha)) rfl h
    obtain ⟨h2, r2, a2, c2⟩ := numP_back h3
    obtain ⟨h1, r1, a1, c1⟩ := numP_back h2
    exact ⟨rfl, r1.app ((hi_rd a1 c1 a2 c2 r2).app r3)⟩
  · rw [pC g] at h ⊢
    simp only [readsF, readF_82, readF_85, readF_87, readF_89, List.flatMap_cons, List.flatMap_nil, List.append_nil, writeF_81, writeF_84, writeF_86, writeF_88] at h ⊢
    obtain ⟨h4, r4, a4, c4⟩ := numP_back h
    obtain ⟨h3, r3, a3, c3⟩ := numP_back h4
    obtain ⟨h2, r2, a2, c2⟩ := numP_back h3
    obtain ⟨h1, r1, a1, c1⟩ := numP_back h2
    exact ⟨rfl, r1.app ((hi_rd a1 c1 a2 c2 r2).app (r3.app (one_rd a4 c4 r4)))⟩
  · rw [pD g] at h ⊢
    simp only [readsF, readF_82, readF_91, List.flatMap_cons, List.flatMap_nil, List.append_nil, writeF_81, writeF_90] at h ⊢
    obtain ⟨h2, r2⟩ := list_back (b := b) (numP_at ha) rfl h
    obtain ⟨h1, r1, a1, c1⟩ := numP_back h2
    exact ⟨rfl, r1.app r2⟩
  · rw [pE g] at h ⊢
    simp only [readsF, readF_82, readF_85, readF_87, List.flatMap_cons, List.flatMap_nil, List.append_nil, writeF_81, writeF_84, writeF_86] at h ⊢
    obtain ⟨h3, r3, a3, c3⟩ := numP_back h
    obtain ⟨h2, r2, a2, c2⟩ := numP_back h3
    obtain ⟨h1, r1, a1, c1⟩ := numP_back h2
    exact ⟨rfl, r1.app ((hi_rd a1 c1 a2 c2 r2).app r3)⟩
  · rw [pF g] at h ⊢
    simp only [readsF, readF_82, readF_85, readF_94, List.flatMap_cons, List.flatMap_nil, List.append_nil, writeF_81, writeF_84, writeF_92] at h ⊢
    obtain ⟨h3, r3⟩ := textP_back h
    obtain ⟨h2, r2, a2, c2⟩ := numP_back h3
    obtain ⟨h1, r1, a1, c1⟩ := numP_back h2
    exact ⟨rfl, r1.app ((hi_rd a1 c1 a2 c2 r2).app r3)⟩
  · rw [pG g] at h ⊢
    simp only [readsF, readF_82, readF_85, readF_100, List.flatMap_cons, List.flatMap_nil, List.append_nil, writeF_81, writeF_84, writeF_98] at h ⊢
    obtain ⟨h3, r3⟩ := fltP_back h
    obtain ⟨h2, r2, a2, c2⟩ := numP_back h3
    obtain ⟨h1, r1, a1, c1⟩ := numP_back h2
    exact ⟨rfl, r1.app ((hi_rd a1 c1 a2 c2 r2).app r3)⟩
  · rw [pH g] at h ⊢
    simp only [readsF, readF_94, readF_97, readF_100, List.flatMap_cons, List.flatMap_nil, List.append_nil, writeF_92, writeF_96, writeF_98] at h ⊢
    obtain ⟨h3, r3⟩ := fltP_back h
    obtain ⟨h2, r2⟩ := textP_back h3
    obtain ⟨h1, r1⟩ := textP_back h2
    exact ⟨rfl, r1.app (r2.app r3)⟩
theorem byte_rd {b : List UInt8} {a : Int} (h0 : 0 ≤ a) (h : a < b.length) : Rd b a (a + 1) [by8 (kindAt b a)] := by
  have hl : a.toNat < b.length := by omega
  have e : by8 (kindAt b a) = b[a.toNat] := by
    unfold kindAt
    rw [by8_u8, List.getD_eq_getElem?_getD, List.getElem?_eq_getElem hl]; rfl
  rw [e]
  refine ⟨⟨h0, by omega⟩, rfl, ?_⟩
  rw [show (a + 1).toNat = a.toNat + 1 by omega, List.drop_eq_getElem_cons hl]; rfl
theorem rec_back {b : List UInt8} {a : Int} (ha : 0 ≤ a ∧ a ≤ b.length) (h : (recS b a).2 = 0) : Rd b a (recS b a).1 (recL (recR b a)) := by
  unfold recS at h ⊢
  unfold recR recL
  by_cases h1 : a = b.length
  · rw [if_pos h1] at h; simp at h
  rw [if_neg h1] at h ⊢
  by_cases h2 : parts8 (kindAt b a) = []
  · rw [if_pos h2] at h; simp at h
  rw [if_neg h2] at h ⊢
  obtain ⟨g1, g2⟩ := reads_back (b := b) (k := kindAt b a) (a := a + 1) (by omega) h2 h
  rw [g1]
  exact (byte_rd ha.1 (by omega)).app g2
theorem unp_back {b : List UInt8} : ∀ (k : Nat) (a : Int) (ps : List Int) (l : List Rec) (a' : Int) (ps' : List Int) (l' : List Rec), (0 ≤ a ∧ a ≤ b.length) → unpGo b k a ps l = .ok (a', ps', l') →
    ∃ m : List Rec, m.length = k ∧ l' = l ++ m ∧ Rd b a a' (m.flatMap recL) ∧ ∀ r ∈ m, r.fine ∧ r.to.length ≤ 96
  | 0, a, ps, l, a', ps', l', ha, h => by
    rw [unpGo] at h
    injection h with h
    injection h with h1 h2
    injection h2 with h2 h3
    exact ⟨[], rfl, by rw [h3, List.append_nil], by rw [← h1]; exact Rd.nil ha, by simp⟩
  | k + 1, a, ps, l, a', ps', l', ha, h => by
    rw [unpGo] at h
    by_cases h1 : (recS b a).2 ≠ 0
    · rw [if_pos h1] at h; cases h
    rw [if_neg h1] at h
    obtain ⟨s1, s2, s3, s4⟩ := recS_spec b a ha
    obtain ⟨m, m1, m2, m3, m4⟩ := unp_back k _ _ _ a' ps' l' s1 h
    refine ⟨recR b a :: m, by rw [List.length_cons, m1], by rw [m2, List.append_assoc]; rfl, ?_, ?_⟩
    · rw [List.flatMap_cons]
      exact (rec_back ha (by simpa using h1)).app m3
    · intro r hr
      rcases List.mem_cons.1 hr with hr | hr
      · rw [hr]; exact ⟨s3, s2⟩
      · exact m4 r hr
def bodyL (l : List Rec) : List UInt8 := packH l.length ++ l.flatMap recL
theorem packB_eq (l : List Rec) : packB l = bodyL l ++ sum4 (sumW (bodyL l)) := rfl
theorem body_five (l : List Rec) : bodyL l = [101, 110, 100, 111, 1] ++ (uintL l.length ++ l.flatMap recL) := by unfold bodyL packH; rw [List.append_assoc]
theorem head_parts {b : List UInt8} (h : (headF b).2 = 0) : (10 ≤ b.length ∧ b.length ≤ 262144) ∧ sum4 (sumW (b.take (b.length - 4))) = b.drop (b.length - 4) ∧ b.take 4 = [101, 110, 100, 111] ∧ b.getD 4 0 = 1 := by
  unfold headF at h
  by_cases h1 : 262144 < b.length
  · rw [if_pos h1] at h; simp at h
  rw [if_neg h1] at h
  by_cases h2 : b.length < 10
  · rw [if_pos h2] at h; simp at h
  rw [if_neg h2] at h
  by_cases h3 : sum4 (sumW (b.take (b.length - 4))) ≠ b.drop (b.length - 4)
  · rw [if_pos h3] at h; simp at h
  rw [if_neg h3] at h
  by_cases h4 : b.take 4 ≠ [101, 110, 100, 111]
  · rw [if_pos h4] at h; simp at h
  rw [if_neg h4] at h
  by_cases h5 : b.getD 4 0 ≠ 1
  · rw [if_pos h5] at h; simp at h
  exact ⟨by omega, by simpa using h3, by simpa using h4, by simpa using h5⟩
theorem unp_err {b : List UInt8} : ∀ (k : Nat) (a : Int) (ps : List Int) (l : List Rec) (x : Int × Int), unpGo b k a ps l = .error x → x.2 ≠ 0
  | 0, a, ps, l, x, h => by rw [unpGo] at h; cases h
  | k + 1, a, ps, l, x, h => by
    rw [unpGo] at h
    by_cases h1 : (recS b a).2 ≠ 0
    · rw [if_pos h1] at h
      injection h with h
      rw [← h]; exact h1
    · rw [if_neg h1] at h
      exact unp_err k _ _ _ x h
theorem pack_unpack {b : List UInt8} (h : (unpackF b).2.2 = 0) : packF (unpackF b).1 = (b, 0, 0) ∧ ∀ r ∈ (unpackF b).1, r.fine ∧ r.to.length ≤ 96 := by
  unfold unpackF at h ⊢
  by_cases h1 : (headF b).2 ≠ 0
  · rw [if_pos h1] at h; exact absurd h h1
  rw [if_neg h1] at h ⊢
  obtain ⟨hlen, hsum, hfour, hone⟩ := head_parts (b := b) (by simpa using h1)
  by_cases h2 : (rdU (b.take (b.length - 4)) 5).2.2 ≠ 0
  · rw [if_pos h2] at h; exact absurd h h2
  rw [if_neg h2] at h ⊢
  by_cases h3 : 4096 < (rdU (b.take (b.length - 4)) 5).1
  · rw [if_pos h3] at h; simp at h
  rw [if_neg h3] at h ⊢
  have hb : b = b.take (b.length - 4) ++ sum4 (sumW (b.take (b.length - 4))) := by rw [hsum, List.take_append_drop]
  have hcl : (b.take (b.length - 4)).length = b.length - 4 := by rw [List.length_take]; omega
  obtain ⟨g1, g2, g3⟩ := rdU_back (b := b.take (b.length - 4)) (a := 5) (by simpa using h2)
  have hc5 : (b.take (b.length - 4)).take 5 = [101, 110, 100, 111, 1] := by
    rw [List.take_take, Nat.min_eq_left (by omega), List.take_add_one, hfour]
    rw [List.getD_eq_getElem?_getD, List.getElem?_eq_getElem (by omega)] at hone
    rw [List.getElem?_eq_getElem (by omega)]
    have hone : b[4] = 1 := hone
    rw [hone]; rfl
  generalize b.take (b.length - 4) = c at *
  cases hu : unpGo c (rdU c 5).1.toNat (rdU c 5).2.1 [] [] with
  | error x =>
    rw [hu] at h
    simp only at h
    have := unp_err _ _ _ _ x hu
    exact absurd h this
  | ok y =>
    obtain ⟨a, ps, l⟩ := y
    rw [hu] at h
    simp only at h ⊢
    by_cases h4 : a < ((b.length - 4 : Nat) : Int)
    · rw [if_pos h4] at h; simp at h
    rw [if_neg h4] at h ⊢
    by_cases h5 : (checkP l).2 ≠ 0
    · rw [if_pos h5] at h; exact absurd h h5
    rw [if_neg h5]
    obtain ⟨m, m1, m2, m3, m4⟩ := unp_back _ _ _ _ _ _ _ g1.le hu
    rw [List.nil_append] at m2
    subst m2
    refine ⟨?_, m4⟩
    have g4 := g1.app m3
    have hml : (l.length : Int) = (rdU c 5).1 := by omega
    rw [← hml, uintP_nat] at g4
    have ha : a = c.length := by have := m3.le; omega
    have e1 : c = bodyL l := by
      have := g4.2.2
      rw [ha, show ((c.length : Int)).toNat = c.length by omega, List.drop_length, List.append_nil] at this
      rw [body_five, ← this, ← hc5]
      exact (List.take_append_drop 5 c).symm
    have e2 : packB l = b := by rw [packB_eq, ← e1, ← hb]
    unfold packF
    rw [if_neg h5, e2, if_neg (by omega)]
theorem unpack_nil {b : List UInt8} (h : (unpackF b).2.2 ≠ 0) : (unpackF b).1 = [] := by
  unfold unpackF at h ⊢
  by_cases h1 : (headF b).2 ≠ 0
  · rw [if_pos h1]
  rw [if_neg h1] at h ⊢
  by_cases h2 : (rdU (b.take (b.length - 4)) 5).2.2 ≠ 0
  · rw [if_pos h2]
  rw [if_neg h2] at h ⊢
  by_cases h3 : 4096 < (rdU (b.take (b.length - 4)) 5).1
  · rw [if_pos h3]
  rw [if_neg h3] at h ⊢
  generalize b.take (b.length - 4) = c at *
  cases hu : unpGo c (rdU c 5).1.toNat (rdU c 5).2.1 [] [] with
  | error x => rfl
  | ok y =>
    obtain ⟨a, ps, l⟩ := y
    rw [hu] at h
    simp only at h ⊢
    by_cases h4 : a < ((b.length - 4 : Nat) : Int)
    · rw [if_pos h4]
    rw [if_neg h4] at h ⊢
    by_cases h5 : (checkP l).2 ≠ 0
    · rw [if_pos h5]
    · rw [if_neg h5] at h; simp at h
theorem unpack_fine (b : List UInt8) : ∀ r ∈ (unpackF b).1, r.fine ∧ r.to.length ≤ 96 := by
  by_cases h : (unpackF b).2.2 = 0
  · exact (pack_unpack h).2
  · rw [unpack_nil h]; simp
section
variable {C : Ctx} {ι ι' : Nat → Loc} {S S' : Nat → Nat → Prop} {σ σ' : Slots} {H H' : LH} {a a' : Act} {w w' : World}
theorem R.say {t : Nat} {v : AV} (h : R C ι S σ H a w) (hv : AVR ι H S w (Slots.get σ t) (a.tmps.getD t Go.undef) → AVR ι H S w v (a.tmps.getD t Go.undef)) : R C ι S ((t, v) :: σ) H a w :=
  ⟨h.fr, h.hr, fun t' => by
    by_cases e : t = t'
    · subst e; simp only [Slots.get, if_true]; exact hv (h.sl t)
    · simp only [Slots.get, if_neg e]; exact h.sl t', h.own, h.sup, h.sub, h.loc, h.size, h.defs⟩
end
def e0 : IC := (.reg [⟨(some 0), 0, none, .mv (.c .nilsl)⟩])
def e1 : IC := .ret
def z1 (f : Func) : Array Oper := opsOf (seqA (seqB (codeOf f)))
end Go.Proofs.Ytcpdnpaedkcebaa.V
