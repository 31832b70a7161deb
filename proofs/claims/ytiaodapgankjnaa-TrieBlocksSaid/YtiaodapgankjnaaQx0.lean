-- Written by wip/tools/pr.py of this session over the kit's print (widened); the words are the kit's print's own. Not trusted: Lean checks it.
import Derived.Test.YtiaodapgankjnaaProg
import Derived.DeepKeys3
import Derived.WideKeyRuns
import Derived.MapKept
import Derived.Great.BuildSlice
import Derived.Deep.RegionHeld3
import Derived.Deep.MidRow
import Derived.Below
import Derived.Deep.Draws
import Derived.Deep.AppendLies
import Derived.Maps.AppendAt
import Derived.OwnWalk
import Derived.Laws.BytesArg
import Derived.Laws.MakeOwn
import Derived.Laws.OwnMore
import Derived.Deep.OwnRows
import Derived.Tactics
import Derived.Lib.ConvBytes
import Derived.Laws.Slices
import Derived.WalkKit
import Derived.KernelRfl
import Derived.RowKit3
import Derived.Deep.LoopGhost
import Derived.Deep.QuietTactic
import Derived.BigQuiet
import Derived.WideLaws
import Derived.Deep.DeepCutAuto
import Derived.Deep.CutBlock
import Derived.Deep.RegionHeld3
import Derived.Laws.Rows
import Derived.Lib.AppendStr
import Derived.ArgAppend
import Derived.Laws.IdiomCopy
import Derived.OrdersHeld
import Derived.Laws.BitsLemmas
import Derived.RowKit
import Derived.Laws.Cover2
import Derived.Laws.Externs
import Derived.Lib.SlBytesConst
import Derived.Deep.Slices
import Derived.Deep.Fields
import Derived.SizedLaws
import Derived.ChangeSlices
import Derived.ChangeKeysEq
import Derived.Test.YtiaodapgankjnaaWWords
import Derived.Test.YtiaodapgankjnaaWLast
import Derived.Test.YtiaodapgankjnaaWTab
import Derived.Test.YtiaodapgankjnaaWFour
import Derived.Test.YtiaodapgankjnaaWQPut
import Derived.Test.YtiaodapgankjnaaWApart
import Derived.Test.YtiaodapgankjnaaWArr
import Derived.Test.YtiaodapgankjnaaWZeros
import Derived.Test.YtiaodapgankjnaaWFoot
import Derived.Test.YtiaodapgankjnaaWKept
import Derived.Test.YtiaodapgankjnaaWShare
import Derived.Test.YtiaodapgankjnaaWN
import Derived.Test.YtiaodapgankjnaaWFootNe
import Derived.Test.YtiaodapgankjnaaWAt
import Derived.Test.YtiaodapgankjnaaWEqStruct
import Derived.Test.YtiaodapgankjnaaWRepsOne
import Derived.Test.YtiaodapgankjnaaWInv
import Derived.Test.YtiaodapgankjnaaWInvWords
import Derived.Test.YtiaodapgankjnaaWGuard
import Derived.Test.YtiaodapgankjnaaWNEv
import Derived.Test.YtiaodapgankjnaaWMore
namespace Go.Proofs.Ytiaodapgankjnaa.Q
open Go.RowKit Go.Proofs.YtiaodapgankjnaaW.PrintWords Go.Proofs.YtiaodapgankjnaaW.PrintLast Go.Proofs.YtiaodapgankjnaaW.PrintMore
attribute [local go_sem] max2_int min2_int max_two min_two max_three min_three max_four min_four   -- for this text's walks alone
set_option linter.unusedVariables false
set_option linter.unusedSimpArgs false



def errW : Option Int → Value
  | none => .nilIface
  | some c => .iface 0 (.int .i64 c)
theorem errW_none : errW none = .nilIface := rfl
theorem errW_some (c : Int) : errW (some c) = .iface 0 (.int .i64 c) := rfl

/-! ### Of this session: a make with a capacity; a cut with three indexes -/
section
variable {P : Program} {ops : Array Oper} {rest : List Oper} {o : Oper} {a : Act} {Q : Exit → Act → World → Prop}
theorem R_make0 {α : Type} (d : Kd α) {w0 W : World} (base e : Nat) (hgd : o.guard = none) {N : Tmp} (hd : o.dst = some N) (t : TypeId) (x y : Operand) (ho : o.op = .makeSlice t x y) (n : Int) (hx : a.eval x = .int .i64 0) (hy : a.eval y = .int .i64 n)
    (ht : P.underlying t = some (.slice e)) (z : Value) (bytes : Nat) (hinfo : (P.info? e).map (fun i => (i.zero, i.size, i.bytes)) = some (some z, d.sz, bytes)) (hz : z.cells.size = d.sz) (hs0 : 0 < d.sz) (hb0 : 0 < bytes)
    (z0 : α) {ok okp : Nat → Prop} (hzero : d.M W base okp z0 z.cells.toList) (hok : ∀ k, okp k → ok k) (hfresh : ok W.heap.size) (h0 : 0 ≤ n) (hl : n.toNat * bytes ≤ 281474976710656) (HB : Below base w0 W) (hbase : base ≤ W.heap.size)
    (h : ∀ v1 w1, d.R e w1 base ok v1 [] → Below base w0 w1 → W.grownBy w1 none → (∃ b, v1.ownBlock = some b ∧ W.heap.size ≤ b) → wpList P ops Q rest (a.put o.dst v1) w1) : wpList P ops Q (o :: rest) a W := by
  obtain ⟨m, rfl⟩ := Int.eq_ofNat_of_zero_le h0
  simp only [Int.toNat_natCast] at hl
  obtain ⟨i0, hi, hzz⟩ := Option.map_eq_some_iff.1 hinfo
  simp only [Prod.mk.injEq] at hzz
  obtain ⟨hz0, hz1, hz2⟩ := hzz
  have hm : m ≤ 281474976710656 := Nat.le_trans (Nat.le_mul_of_pos_right _ hb0) hl
  have hr := run_make (P := P) W t e i0 z ht hi hz0 .i64 .i64 0 (m : Int) (by omega) (by omega)
    (by
      have h3 : ((i0.bytes * m : Nat) : Int) ≤ 281474976710656 := by rw [hz2, Nat.mul_comm]; omega
      rwa [Int.natCast_mul] at h3) (by omega)
  simp only [Int.toNat_natCast, Int.toNat_zero] at hr
  rw [hz1] at hr
  refine Kd.event_run hgd (v := .slice (some ⟨W.heap.size, 0, none⟩) 0 m) (w1 := W.alloc (.cells (madeCells z.cells (m * d.sz)) e)) (by simp [execOp, ho, hx, hy, hr])
    (h _ _ ⟨fun k hk => ?_, [], ⟨by simp, .inr ⟨W.heap.size, m, madeCells z.cells (m * d.sz), rfl, hbase, heap_alloc_new W _, by simp, by simp only [maxLen]; omega, size_madeCells _ _, by simp⟩⟩, Reps.none _ _⟩ (HB.alloc hbase _) (World.grownBy_alloc W _ none) ⟨W.heap.size, by simp [Value.ownBlock], Nat.le_refl _⟩)
  have : W.heap.size = k := by simpa [Value.ownBlock] using hk
  subst this
  exact hfresh
end
theorem run_cut3 {P : Program} (t e : TypeId) {i : TypeInfo} (ht : P.underlying t = some (.slice e)) (hi : P.info? e = some i) (hsz : i.size = 1) (A : Option Addr) (n c p q : Nat) (h2 : p + q ≤ n) (hc : n ≤ c) :
    ∃ A' : Option Addr, (∀ W : World, (Instr.slice t (.slice A n c) (some (.int .i64 (p : Int))) (some (.int .i64 ((p : Int) + (q : Int)))) (some (.int .i64 ((p : Int) + (q : Int))))).run P W = .ok (.slice A' q q) W) ∧
      ∀ (w : World) (xs : List Int), (Kd.int .u8).C w A n xs → (Kd.int .u8).C w A' q ((xs.drop p).take q) := by
  have hel : P.elem t = e := by simp [Program.elem, ht]
  have hu : P.underlying t = some (.slice (P.elem t)) := by rw [hel]; exact ht
  have hz : ((p : Int) + (q : Int)).toNat = p + q := by omega
  refine ⟨if p + q = p then A else A.map (·.add p), fun W => ?_, fun w xs h => ?_⟩
  · rw [run_slice_lhm W t A n c hu .i64 .i64 .i64 (p : Int) ((p : Int) + (q : Int)) ((p : Int) + (q : Int)) (by omega) (by omega) (by omega) (by omega), hel]
    simp [sizeOf, typeInfo, hi, hsz, sliced, Result.andThen, hz]
  · have hR := Kd.reads_of_C (enc := Value.int .u8) (d := (0 : Int)) (h1 := fun _ => rfl) h
    rcases Nat.eq_zero_or_pos q with h0 | h0
    · subst h0
      refine Kd.C_of_reads (d := (0 : Int)) ?_
      exact ⟨by simp, by omega, fun hp => absurd hp (by omega)⟩
    · refine Kd.C_of_reads (d := (0 : Int)) ?_
      rw [if_neg (by omega)]
      obtain ⟨l1, l2, l3⟩ := hR
      refine ⟨by simp; omega, by omega, fun _ => ?_⟩
      obtain ⟨ad, rfl, hcell⟩ := l3 (by omega)
      refine ⟨ad.add p, rfl, fun j hj => ?_⟩
      have ha : (ad.add p).add j = ad.add (p + j) := by
        unfold Addr.add
        by_cases h1 : p = 0 <;> by_cases h2 : j = 0 <;> simp [h1, h2, Nat.add_assoc]
      rw [ha, hcell (p + j) (by omega)]
      simp [List.getD_eq_getElem?_getD, List.getElem?_drop, List.getElem?_take, hj]
theorem C_string_at {P : Program} {w : World} {src dst e : TypeId} {A : Option Addr} {n c : Nat} {xs : List Int} (hs : P.underlying src = some (.slice e)) (he : P.underlying e = some (.int .u8)) (hd : P.underlying dst = some .string)
    (h : (Kd.int .u8).C w A n xs) : ∀ n' : Nat, n' = n → (convert src dst (.slice A n' c)).run P w = .ok (.string (strOfNums xs)) w := fun _ e' => by subst e'; exact Kd.C_string hs he hd h
theorem C_string_drew {P : Program} {w : World} {src dst e : TypeId} {A : Option Addr} {n c : Nat} {xs : List Int} (hs : P.underlying src = some (.slice e)) (he : P.underlying e = some (.int .u8)) (hd : P.underlying dst = some .string)
    (h : (Kd.int .u8).C w A n xs) : ∀ m n' : Nat, n' = n → (convert src dst (.slice A n' c)).run P (w.drewN m) = .ok (.string (strOfNums xs)) (w.drewN m) := fun m _ e' => by subst e'; exact Kd.C_string hs he hd (Kd.C_drewN h m)
theorem C_block {W : World} {g e : Nat} {fr : Nat × Nat} (k : IntKind) (xs : List Int) (hm : xs.length ≤ 9223372036854775807) (h : W.heap[g]? = some (.cells (nums k xs).toArray e fr)) : (Kd.int k).C W (some ⟨g, 0, none⟩) xs.length xs := by
  refine Kd.C_of_reads (d := (0 : Int)) ⟨rfl, hm, fun _ => ⟨_, rfl, fun j hj => ?_⟩⟩
  rw [add_plain, cell_of_row W g j _ e fr h]
  simp [nums, List.getElem?_eq_getElem hj, List.getD_eq_getElem?_getD]
theorem C_block2 {W : World} {g e : Nat} {fr : Nat × Nat} (t : Nat) {A B : Option Addr} {c d : Nat} (xs ys : List Int) (h : W.heap[g]? = some (.cells #[.slice A xs.length c, .slice B ys.length d] e fr)) (hc : xs.length ≤ c) (hd : ys.length ≤ d)
    (hx : (Kd.int .u8).C W A xs.length xs) (hy : (Kd.int .u8).C W B ys.length ys) : (Kd.slice t (Kd.int .u8)).C W (some ⟨g, 0, none⟩) 2 [xs, ys] := by
  refine ⟨rfl, by decide, fun _ => ⟨_, rfl, fun j p hj => ?_⟩⟩
  rcases j with _ | _ | j
  · obtain rfl : xs = p := by simpa using hj
    refine ⟨[.slice A xs.length c], rfl, ⟨A, c, rfl, hc, hx⟩, fun i u hu => ?_⟩
    rcases i with _ | i
    · rw [add_plain, cell_of_row W g _ _ e fr h]; simpa using hu
    · simp at hu
  · obtain rfl : ys = p := by simpa using hj
    refine ⟨[.slice B ys.length d], rfl, ⟨B, d, rfl, hd, hy⟩, fun i u hu => ?_⟩
    rcases i with _ | i
    · rw [add_plain, cell_of_row W g _ _ e fr h]; simpa [Kd.slice] using hu
    · simp at hu
  · simp at hj
theorem C_new {W : World} {g e : Nat} (k : IntKind) (xs : List Int) (hm : xs.length ≤ 9223372036854775807) (hg : g = W.heap.size) {fr : Nat × Nat} : (Kd.int k).C (W.alloc (.cells (nums k xs).toArray e fr)) (some ⟨g, 0, none⟩) xs.length xs := by
  subst hg
  exact C_block k xs hm (heap_alloc_new W _)
theorem heap_alloc_eq {W : World} {o : Obj} {g : Nat} (hg : g = W.heap.size) : (W.alloc o).heap[g]? = some o := by subst hg; exact heap_alloc_new W o
theorem cut_cap {P : Program} (t e : TypeId) {i : TypeInfo} (ht : P.underlying t = some (.slice e)) (hi : P.info? e = some i) (A : Option Addr) (n c m : Nat) (hm : m ≤ c) (W : World) :
    (Instr.slice t (.slice A n c) none (some (.int .i64 (m : Int))) none).run P W = .ok (.slice A m c) W := by
  have hel : P.elem t = e := by simp [Program.elem, ht]
  have hu : P.underlying t = some (.slice (P.elem t)) := by rw [hel]; exact ht
  have ha : (A.map fun x => x.add 0) = A := by cases A <;> simp [Addr.add]
  rw [run_slice_h W t A n c hu .i64 (m : Int) (by omega) (by omega), hel]
  simp [sizeOf, typeInfo, hi, sliced, Result.andThen, ha]
abbrev o_ : Bool := false
abbrev x_ : Bool := true
/-- The block of a slice hangs on its address alone. -/
theorem own_len (A : Option Addr) (n m c c' : Nat) : (Value.slice A n c).ownBlock = (Value.slice A m c').ownBlock := by cases A <;> rfl
/-! ### Of this session: several operations of a drawing region that yield in every world, taken first together -/
section
variable {P : Program} {md : Region.Mode} {ops : Array Oper} {Q : Exit → Act → World → Prop} {S : World → Prop} {ds : List Nat}
def anysT (T : Bool × List (List Nat × List Nat)) : List Bool → List (Nat × Option Tmp) → List Bool → Bool
  | l, [], l' => l == l'
  | l, (i, _) :: is, l' => anyT T l (l.set i true) i && anysT T (l.set i true) is l'
inductive ChY (P : Program) (ops : Array Oper) : List (Nat × Option Tmp) → Act → Act → Prop
  | nil {a : Act} : ChY P ops [] a a
  | cons {i : Nat} {N : Option Tmp} {is : List (Nat × Option Tmp)} {oi : Oper} {v : Value} {a a1 a' : Act} (hi : ops[i]? = some oi) (hN : oi.dst = N) (hy : Yields P ops oi v a) (ha : a.put N v = a1) (h : ChY P ops is a1 a') : ChY P ops ((i, N) :: is) a a'
theorem pures_aux {T : Bool × List (List Nat × List Nat)} (hT : rtab md ops = T) (hQ : ∀ c a d v w, Q (.panic c) (Act.put a d v) w → Q (.panic c) a w) {is : List (Nat × Option Tmp)} {a a' : Act} (hy : ChY P ops is a a') : ∀ {l : Array Bool} (l' : Array Bool), anysT T l.toList is l'.toList = true → ∀ {w : World} {fuel : Nat},
    wpAnyLast P md ops Q S ds fuel l' a' w → wpAnyLast P md ops Q S ds (fuel + is.length) l a w := by
  induction hy with
  | nil =>
    intro l l' hc w fuel h
    have e : l = l' := by
      apply Array.toList_inj.1
      simpa [anysT] using hc
    subst e
    exact h
  | @cons i N is oi v a a1 a' hi hN hy ha h0 ih =>
    intro l l' hc w fuel h
    simp only [anysT, Bool.and_eq_true] at hc
    obtain ⟨c1, c2⟩ := hc
    have e : l.toList.set i true = (l.setIfInBounds i true).toList := by simp
    rw [e] at c1 c2
    exact pure_ (l.setIfInBounds i true) hi hN (any_of hT c1) (fun c a w => hQ c a oi.dst v w) hy ha (ih l' c2 h)
theorem pures_ (is : List (Nat × Option Tmp)) {k : Nat} {T : Bool × List (List Nat × List Nat)} {a a' : Act} {l : Array Bool} (l' : Array Bool) (hT : rtab md ops = T) (hk : is.length = k) (hc : anysT T l.toList is l'.toList = true) (hQ : ∀ c a d v w, Q (.panic c) (Act.put a d v) w → Q (.panic c) a w)
    (hy : ChY P ops is a a') {w : World} {fuel : Nat} (h : wpAnyLast P md ops Q S ds fuel l' a' w) : wpAnyLast P md ops Q S ds (fuel + k) l a w := by
  subst hk
  exact pures_aux hT hQ hy l' hc h
end

/-! ### Of this session: a pointer to a struct of the call's own, that is only read: P (as R is of a row) and PC (as C) -/
namespace Kd
def PC {α : Type} (d : Kd α) (w : World) (A : Option Addr) (n : Nat) (xs : List α) : Prop := d.C w A n xs ∧ (xs = [] → A = none)
def P {α : Type} (d : Kd α) (e : Nat) (w : World) (base : Nat) (ok : Nat → Prop) (v : Value) (xs : List α) : Prop :=
  ∃ A c, v = .pointer A ∧ (xs = [] → A = none) ∧ d.R e w base ok (.slice A xs.length c) xs
section
variable {α : Type} {d : Kd α} {e : Nat} {w w1 : World} {base : Nat} {ok ok' : Nat → Prop} {v u : Value} {xs : List α}
theorem PC_nil (d : Kd α) (w : World) : PC d w none ([] : List α).length [] := ⟨Kd.C_nil d w, fun _ => rfl⟩
theorem PC_C {A : Option Addr} {n : Nat} (h : PC d w A n xs) : d.C w A n xs := h.1
theorem PC_below {A : Option Addr} {n : Nat} (h : PC d w A n xs) (hb : Below w.heap.size w w1) : PC d w1 A n xs := ⟨Kd.C_below h.1 hb, h.2⟩
theorem PC_alloc {A : Option Addr} {n : Nat} (h : PC d w A n xs) (o : Obj) : PC d (w.alloc o) A n xs := ⟨Kd.C_alloc h.1 o, h.2⟩
theorem PC_drewN {A : Option Addr} {n : Nat} (h : PC d w A n xs) (m : Nat) : PC d (w.drewN m) A n xs := ⟨Kd.C_drewN h.1 m, h.2⟩
theorem PC_drew {A : Option Addr} {n : Nat} (h : PC d w A n xs) : PC d w.drew A n xs := ⟨Kd.C_drew h.1, h.2⟩
theorem PC_none {A : Option Addr} {n : Nat} (h : PC d w A n xs) : xs = [] ↔ A = none := by
  refine ⟨h.2, fun hA => ?_⟩
  subst hA
  cases xs with
  | nil => rfl
  | cons x r =>
    obtain ⟨h1, h2, h3⟩ := h.1
    obtain ⟨ad, hh, _⟩ := h3 (by rw [← h1]; simp)
    cases hh
theorem P_nil (d : Kd α) (e : Nat) (w : World) (base : Nat) (ok : Nat → Prop) : P d e w base ok (.pointer none) [] := ⟨none, 0, rfl, fun _ => rfl, Kd.R_nil _ _ _ _ _⟩
theorem P_mono (h : P d e w base ok v xs) (hok : ∀ k, ok k → ok' k) : P d e w base ok' v xs := by
  obtain ⟨A, c, rfl, hn, h⟩ := h
  exact ⟨A, c, rfl, hn, Kd.R_mono h hok⟩
theorem P_step (h : P d e w base ok v xs) (hm : ∀ k, ok k → k < w.heap.size → w1.heap[k]? = w.heap[k]?) : P d e w1 base ok v xs := by
  obtain ⟨A, c, rfl, hn, h⟩ := h
  exact ⟨A, c, rfl, hn, Kd.R_step h hm⟩
theorem P_bound (h : P d e w base ok v xs) : P d e w base (fun k => ok k ∧ base ≤ k ∧ k < w.heap.size ∧ ∃ q, q ∈ e :: d.E ∧ ∃ cells, w.heap[k]? = some (.cells cells q (0, 0))) v xs := by
  obtain ⟨A, c, rfl, hn, h⟩ := h
  exact ⟨A, c, rfl, hn, Kd.R_bound h⟩
theorem P_lower {base' : Nat} (h : P d e w base ok v xs) (hb : base' ≤ base) : P d e w base' ok v xs := by
  obtain ⟨A, c, rfl, hn, h⟩ := h
  exact ⟨A, c, rfl, hn, Kd.R_lower h hb⟩
theorem P_below (h : P d e w base ok v xs) (hb : Below w.heap.size w w1) : P d e w1 base ok v xs := P_step h (fun k _ hk => hb.block k hk)
theorem P_alloc (h : P d e w base ok v xs) (o : Obj) : P d e (w.alloc o) base ok v xs := P_below h (below_alloc (Below.refl _ _) o)
theorem P_drew (h : P d e w base ok v xs) : P d e w.drew base ok v xs := P_below h (below_drew (Below.refl _ _))
theorem P_drewN (h : P d e w base ok v xs) (m : Nat) : P d e (w.drewN m) base ok v xs := P_below h (pw_below_drewN (Below.refl _ _) m)
theorem P_at {m : Nat} {w' : World} (hq : w.drewN m = w') (h : P d e w base ok v xs) : P d e w' base ok v xs := by subst hq; exact P_drewN h m
theorem P_grown (h : P d e w base ok v xs) {row : Option Nat} (hg : w.grownBy w1 row) (hok : ∀ k, ok k → some k ≠ row) : P d e w1 base ok v xs := P_step h (fun k ho hk => hg.block k hk (hok k ho))
theorem P_far (h : P d e w base ok v xs) {p : Addr} (hok : ∀ k, ok k → k ≠ p.block) (u : Value) : P d e (w.setCell p u) base ok v xs := P_step h (fun k ho _ => Below.heap_setCell w p u k (hok k ho))
theorem P_keep (h : P d e w base ok v xs) {g : Nat} (hk : KeepBut w w1 g none) (hok : ∀ k, ok k → k ≠ g) : P d e w1 base ok v xs := P_step h (fun k ho hlt => hk.2 k hlt (hok k ho) (by simp))
theorem P_types (h : P d e w base ok v xs) {g t : Nat} {cells : Array Value} (hb : w.heap[g]? = some (.cells cells t (0, 0))) (ht : ∀ q, q ∈ e :: d.E → q ≠ t) : P d e w base (fun k => ok k ∧ k ≠ g) v xs := by
  obtain ⟨A, c, rfl, hn, h⟩ := h
  exact ⟨A, c, rfl, hn, Kd.R_types h hb ht⟩
theorem P_apart' {e' : Nat} (h : P d e w base ok u xs) (hty : ∀ k, v.ownBlock = some k → ∃ cells, w.heap[k]? = some (.cells cells e' (0, 0))) (ht : ∀ q, q ∈ e :: d.E → q ≠ e') : P d e w base (fun k => ok k ∧ some k ≠ v.ownBlock) u xs := by
  obtain ⟨A, c, rfl, hn, h⟩ := h
  exact ⟨A, c, rfl, hn, Kd.R_apart' h hty ht⟩
theorem P_none (h : P d e w base ok v xs) : v.ownBlock = none := by
  obtain ⟨A, c, rfl, hn, h⟩ := h
  rfl
theorem P_typed (h : P d e w base ok v xs) : ∀ k, v.ownBlock = some k → ∃ cells, w.heap[k]? = some (.cells cells e (0, 0)) := fun k hk => by rw [P_none h] at hk; cases hk
theorem P_lt (h : P d e w base ok v xs) : ∀ k, v.ownBlock = some k → k < w.heap.size := fun k hk => by rw [P_none h] at hk; cases hk
theorem P_base (h : P d e w base ok v xs) : ∀ k, v.ownBlock = some k → base ≤ k := fun k hk => by rw [P_none h] at hk; cases hk
theorem P_base2 (h : P d e w base ok v xs) : v.ownBlock = none ∨ ∃ k, v.ownBlock = some k ∧ base ≤ k := .inl (P_none h)
theorem P_ne (h : P d e w base ok v xs) {g : Nat} {t : Nat} {cells : Array Value} (_ : w.heap[g]? = some (.cells cells t (0, 0))) (_ : e ≠ t) : some g ≠ v.ownBlock := by rw [P_none h]; simp
theorem P_away (h : P d e w base ok v xs) {g : Nat} (_ : ∀ k, ok k → k ≠ g) : some g ≠ v.ownBlock := by rw [P_none h]; simp
theorem P_old {W : World} (h : P d e W base ok u xs) (hb : Below W.heap.size W w1) : P d e w1 base (fun k => ok k ∧ k < W.heap.size) u xs := by
  obtain ⟨A, c, rfl, hn, h⟩ := h
  exact ⟨A, c, rfl, hn, Kd.R_old h hb⟩
theorem P_told {N : Nat} (h : P d e w1 base (fun k => ok k ∧ k < N) u xs) (hbase : ∀ k, v.ownBlock = some k → N ≤ k) : P d e w1 base (fun k => (ok k ∧ some k ≠ v.ownBlock) ∧ k < N) u xs := by
  obtain ⟨A, c, rfl, hn, h⟩ := h
  exact ⟨A, c, rfl, hn, Kd.R_told h hbase⟩
theorem P_elder' {W : World} (h : P d e W base ok u xs) (hbase : ∀ k, v.ownBlock = some k → W.heap.size ≤ k) (hb : Below W.heap.size W w1) : P d e w1 base (fun k => ok k ∧ some k ≠ v.ownBlock) u xs := by
  obtain ⟨A, c, rfl, hn, h⟩ := h
  exact ⟨A, c, rfl, hn, Kd.R_elder' h hbase hb⟩
theorem P_new' {W : World} (h : P d e w1 W.heap.size ok v xs) (hlt : ∀ k, u.ownBlock = some k → k < W.heap.size) : P d e w1 W.heap.size (fun k => ok k ∧ some k ≠ u.ownBlock) v xs := by
  obtain ⟨A, c, rfl, hn, h⟩ := h
  exact ⟨A, c, rfl, hn, Kd.R_new' h hlt⟩
theorem P_newB {o : Obj} {g : Nat} (h : P d e w1 w.heap.size ok v xs) (hb : w.heap[g]? = some o) : P d e w1 w.heap.size (fun k => ok k ∧ k ≠ g) v xs := by
  obtain ⟨A, c, rfl, hn, h⟩ := h
  exact ⟨A, c, rfl, hn, Kd.R_newB h hb⟩
theorem P_newM {W : World} {M : Nat → Prop} (h : P d e w1 W.heap.size ok v xs) (hle : w.heap.size ≤ W.heap.size) (hM : ∀ k, w.heap.size ≤ k → M k) : P d e w1 W.heap.size (fun k => M k ∧ ok k) v xs := by
  obtain ⟨A, c, rfl, hn, h⟩ := h
  exact ⟨A, c, rfl, hn, Kd.R_newM h hle hM⟩
theorem P_oldK {W : World} {g : Nat} (hu : P d e W base (fun k => ok k ∧ k ≠ g) u xs) (hk : KeepBut W w1 g none) : P d e w1 base (fun k => ok k ∧ k < W.heap.size) u xs := by
  obtain ⟨A, c, rfl, hn, h⟩ := hu
  exact ⟨A, c, rfl, hn, Kd.R_oldK h hk⟩
theorem P_over' {W : World} {e' : Nat} (h : P d e W base ok u xs) (hty : ∀ k, v.ownBlock = some k → ∃ cells, W.heap[k]? = some (.cells cells e' (0, 0))) (ht : ∀ q, q ∈ e :: d.E → q ≠ e') (hg : W.grownBy w1 v.ownBlock) : P d e w1 base ok u xs := by
  obtain ⟨A, c, rfl, hn, h⟩ := h
  exact ⟨A, c, rfl, hn, Kd.R_over' h hty ht hg⟩
theorem P_after {W : World} {v1 : Value} (h : P d e W base (fun k => ok k ∧ some k ≠ v.ownBlock) u xs) (hg : W.grownBy w1 v.ownBlock) (hat : v1.ownBlock = v.ownBlock ∨ ∃ b, v1.ownBlock = some b ∧ W.heap.size ≤ b) : P d e w1 base (fun k => ok k ∧ some k ≠ v1.ownBlock) u xs := by
  obtain ⟨A, c, rfl, hn, h⟩ := h
  exact ⟨A, c, rfl, hn, Kd.R_after h hg hat⟩
theorem P_apart_nil (h : P d e w base ok u xs) : P d e w base (fun k => ok k ∧ some k ≠ (Value.slice none 0 0).ownBlock) u xs := P_mono h (fun k hk => ⟨hk, by simp [Value.ownBlock]⟩)
theorem P_drop (h : P d e w base (fun k => ok k ∧ ok' k) u xs) : P d e w base ok u xs := P_mono h (fun _ hk => hk.1)
theorem P_kept {W W2 : World} {S : Nat → Prop} (h : P d e W base ok v xs) (hk : Kept W W2 S) (hne : ∀ k, ok k → ¬ S k) : P d e W2 base ok v xs := P_step h (fun k ho hlt => hk.2 k hlt (hne k ho))
theorem P_keptB {W W2 : World} {S : Nat → Prop} (h : P d e W base ok v xs) (hk : Kept W W2 S) (hne : ∀ k, ok k → ¬ S k) : P d e W2 base (fun k => ok k ∧ (¬ S k ∧ k < W.heap.size)) v xs := by
  obtain ⟨A, c, rfl, hn, h⟩ := h
  exact ⟨A, c, rfl, hn, Kd.R_keptB h hk hne⟩
theorem P_elderB (h : P d e w base ok v xs) (a : Nat) (ha : w.heap.size ≤ a) : P d e w base (fun k => ok k ∧ k ≠ a) v xs := by
  obtain ⟨A, c, rfl, hn, h⟩ := h
  exact ⟨A, c, rfl, hn, Kd.R_elderB h a ha⟩
theorem P_slice (h : P d e w base ok v xs) : ∃ (A : Option Addr) (_c : Nat), v = .pointer A := by
  obtain ⟨A, c, rfl, hn, h⟩ := h
  exact ⟨A, c, rfl⟩
theorem P_reads' {A : Option Addr} (h : P d e w base ok (.pointer A) xs) : xs.length = xs.length ∧ xs.length ≤ xs.length ∧ PC d w A xs.length xs := by
  obtain ⟨A', c, he, hn, h⟩ := h
  injection he with he
  subst he
  exact ⟨rfl, Nat.le_refl _, (Kd.R_reads' h).2.2, hn⟩
end
end Kd
theorem Kd.PC_isNone {α : Type} {d : Kd α} {w : World} {A : Option Addr} {n : Nat} {xs : List α} (h : Kd.PC d w A n xs) : A.isNone = xs.isEmpty := by
  have h1 := Kd.PC_none h
  cases xs with
  | nil => rw [h1.1 rfl]; rfl
  | cons x r =>
    cases A with
    | none => exact absurd (h1.2 rfl) (by simp)
    | some a => rfl


theorem info35 : (Try.prog.info? 35).map (fun i => (i.zero, i.size, i.bytes)) = some (some (.agg #[(.int .i64 0), (.int .i64 0), (.int .i64 0)]), 3, 24) := by kernel_rfl
theorem info49 : (Try.prog.info? 49).map (fun i => (i.zero, i.size, i.bytes)) = some (some (.int .u16 0), 1, 2) := by kernel_rfl
-- the values' own types
/-! ### Of this session: arrays of whole numbers, as values and as elements of a row -/
def arrV (k : IntKind) (n : Nat) (xs : List Int) : Array Value := ((List.range n).map fun j => Value.int k (xs.getD j 0)).toArray
def arrEq (n : Nat) (xs ys : List Int) : Bool := (List.range n).all fun j => xs.getD j 0 == ys.getD j 0
def ArrAt (k : IntKind) (n : Nat) (w : World) (a : Addr) (xs : List Int) : Prop := xs.length = n ∧ ∀ j : Nat, j < n → w.cell? (a.add j) = some (.int k (xs.getD j 0))
theorem encs_getD (k : IntKind) (xs : List Int) (j : Nat) (hj : j < xs.length) : (encs (Value.int k) xs)[j]? = some (.int k (xs.getD j 0)) := by
  simp [encs, List.getElem?_eq_getElem hj, List.getD_eq_getElem?_getD]
theorem arrV_encs (k : IntKind) {n : Nat} {xs : List Int} (h : xs.length = n) : (arrV k n xs).toList = encs (Value.int k) xs := by
  apply List.ext_getElem?
  intro j
  simp only [arrV, List.getElem?_map]
  by_cases hj : j < n
  · rw [encs_getD k xs j (by omega)]
    simp [hj]
  · rw [List.getElem?_eq_none (l := encs _ _) (by rw [encs_length]; omega)]
    simp [hj]
theorem arrAt_of {k : IntKind} {m : Nat} {hs : 0 < (Kd.int k).sz} {w : World} {A : Option Addr} {n : Nat} {xs : List (List Int)} (h : (Kd.arr m (Kd.int k) hs).C w A n xs) (i : Int) (h0 : 0 ≤ i) (h1 : i < n) :
    ∃ ad, A = some ad ∧ ArrAt k m w (ad.add (i.toNat * m)) (xs.getD i.toNat []) := by
  obtain ⟨ad, c, e, hcl, hK, hc⟩ := Kd.C_get h [] i h0 h1
  obtain ⟨hl, hcs⟩ := Kd.arr_cells hK
  have hsz : (Kd.arr m (Kd.int k) hs).sz = m := Nat.mul_one m
  refine ⟨ad, e, hl, fun j hj => ?_⟩
  have h2 := hc j (.int k ((xs.getD i.toNat []).getD j 0)) (by rw [hcs, encs_getD k _ j (by omega)])
  rw [hsz] at h2
  rw [← h2]
  congr 1
  unfold Addr.add
  by_cases ha : i.toNat * m = 0 <;> by_cases hb : j = 0 <;> simp [ha, hb, Nat.add_assoc]
theorem ArrAt_below {k : IntKind} {n : Nat} {w w1 : World} {a : Addr} {xs : List Int} (hb : Below w.heap.size w w1) (h : ArrAt k n w a xs) : ArrAt k n w1 a xs := ⟨h.1, fun j hj => (hb.cell (World.block_lt_of_cell? w _ (h.2 j hj))).trans (h.2 j hj)⟩
theorem arr_cell {k : IntKind} {n : Nat} {w : World} {a : Addr} {xs : List Int} (h : ArrAt k n w a xs) (i : Int) (h0 : 0 ≤ i) (h1 : i < (n : Int)) : w.cell? (a.add i.toNat) = some (.int k (rd xs i)) := by
  rw [h.2 i.toNat (by omega)]
  rfl
theorem heap_arr (n : Nat) (k : IntKind) {hs : 0 < (Kd.int k).sz} : Kd.Heap (Kd.arr n (Kd.int k) hs) := ⟨fun _ h => h⟩
section
variable {P : Program}
theorem run_eqItems_arr {k : IntKind} {e : TypeId} (he : P.underlying e = some (.int k)) (d n : Nat) (w : World) (xs ys : List Int) : ∀ is : List Nat, (∀ j ∈ is, j < n) → (Op.eqItems (d + 1) e 1 (arrV k n xs) (arrV k n ys) is).run P w = .ok (is.all fun j => xs.getD j 0 == ys.getD j 0) w
  | [], _ => rfl
  | j :: is, h => by
    have hp : P.plainKey e = true := by simp [Program.plainKey, he]
    have hx : ∀ zs : List Int, (arrV k n zs)[j * 1]? = some (.int k (zs.getD j 0)) := fun zs => by simp [arrV, h j (by simp)]
    simp only [Op.eqItems, Sem.run_bind, run_part_plain (P := P) (w := w) hp (hx xs), run_part_plain (P := P) (w := w) hp (hx ys), Result.andThen_ok, run_equalIn_int (P := P) w d e k k _ _ he]
    cases hb : (xs.getD j 0 == ys.getD j 0)
    · simp only [Bool.not_false, if_true, Sem.run_pure, List.all_cons, hb, Bool.false_and]
    · simp only [Bool.not_true, Bool.false_eq_true, if_false, List.all_cons, hb, Bool.true_and]
      exact run_eqItems_arr he d n w xs ys is (fun q hq => h q (by simp [hq]))
theorem eqArr {k : IntKind} {t e n : Nat} {i : TypeInfo} (ht : P.underlying t = some (.array n e)) (he : P.underlying e = some (.int k)) (hi : P.info? e = some i) (hc : P.cellsOf e = 1) (d : Nat) (w : World) (xs ys : List Int) :
    (Op.equalIn (d + 2) t (.agg (arrV k n xs)) (.agg (arrV k n ys))).run P w = .ok (arrEq n xs ys) w := by
  rw [run_equalIn_array (d := d + 1) (hu := ht) (hi := hi), hc]
  exact run_eqItems_arr he d n w xs ys _ (fun j hj => List.mem_range.1 hj)
theorem run_load_arr {k : IntKind} {n : Nat} {t e : TypeId} {w : World} {ad : Addr} {xs : List Int} (hat : ArrAt k n w ad xs) (ht : P.underlying t = some (.array n e)) (hi : (P.info? t).map (·.size) = some n) : (loadVar t ad).run P w = .ok (.agg (arrV k n xs)) w := by
  have hlen : (arrV k n xs).toList.length = n := by simp [arrV]
  have hl : (loadCells ad (arrV k n xs).toList.length).run P w = .ok (arrV k n xs).toList.toArray w :=
    run_loadCells_list (P := P) w ad (arrV k n xs).toList (fun j v hv => by
      have hj : j < n := by
        have := (List.getElem?_eq_some_iff.1 hv).1
        omega
      rw [hat.2 j hj, ← hv]
      simp [arrV, hj])
  rw [hlen] at hl
  cases hq : P.info? t with
  | none => simp [hq] at hi
  | some i =>
    have hs : i.size = n := by simpa [hq] using hi
    have hagg : (isAgg t).run P w = .ok true w := by
      unfold isAgg
      rw [Sem.run_bind, run_underlying ht w]
      simp
    simp only [Array.toArray_toList] at hl
    simp [loadVar, Sem.run_bind, hagg, sizeOf, typeInfo, hq, hs, hl]
theorem wpQuiet_load_arr {ops : Array Oper} {Q : Act → Prop} {a : Act} {o : Oper} {rest : List Oper} {k : IntKind} {n : Nat} {t e : TypeId} {w : World} {ad : Addr} {xs : List Int} (hg : o.guard = none) (x : Operand) (ho : o.op = .load t x) (hx : a.eval x = .pointer (some ad))
    (hat : ArrAt k n w ad xs) (ht : P.underlying t = some (.array n e)) (hi : (P.info? t).map (·.size) = some n) (h : wpQuiet P ops (fun w' => ∃ m, w' = w.drewN m) Q rest (a.put o.dst (.agg (arrV k n xs)))) : wpQuiet P ops (fun w' => ∃ m, w' = w.drewN m) Q (o :: rest) a := by
  refine BigFrame.wpQuiet_want (by simp [Region.wanted, hg]) (fun K hK => ⟨_, ?_, hK _ h⟩)
  rintro w' ⟨m, rfl⟩
  unfold Oper.quietAt execOp
  have h1 : ArrAt k n (w.drewN m) ad xs := hat
  simp only [ho, hx, Instr.loadAt, Instr.sureAddr, Sem.run_bind, Sem.run_pure, Result.andThen_ok, run_load_arr h1 ht hi]
  exact ⟨rfl, rfl⟩
/-- Behind 'go_big_quiet_want'. -/
theorem oquiet_load_arr {K : Act → Prop} {a : Act} {o : Oper} {k : IntKind} {n : Nat} {t e : TypeId} {w : World} {ad : Addr} {xs : List Int} (x : Operand) (ho : o.op = .load t x) (hx : a.eval x = .pointer (some ad))
    (hat : ArrAt k n w ad xs) (ht : P.underlying t = some (.array n e)) (hi : (P.info? t).map (·.size) = some n) (h : K (a.put o.dst (.agg (arrV k n xs)))) : o.quiet P a (fun w' => ∃ m, w' = w.drewN m) K := by
  refine ⟨_, ?_, h⟩
  rintro w' ⟨m, rfl⟩
  unfold Oper.quietAt execOp
  have h1 : ArrAt k n (w.drewN m) ad xs := hat
  simp only [ho, hx, Instr.loadAt, Instr.sureAddr, Sem.run_bind, Sem.run_pure, Result.andThen_ok, run_load_arr h1 ht hi]
  exact ⟨rfl, rfl⟩
theorem wpList_load_arr {ops : Array Oper} {rest : List Oper} {o : Oper} {a : Act} {w : World} {Q : Exit → Act → World → Prop} {k : IntKind} {n : Nat} {t e : TypeId} {ad : Addr} {xs : List Int} (hg : o.guard = none) (x : Operand) (ho : o.op = .load t x) (hx : a.eval x = .pointer (some ad))
    (hat : ArrAt k n w ad xs) (ht : P.underlying t = some (.array n e)) (hi : (P.info? t).map (·.size) = some n) (h : wpList P ops Q rest (a.put o.dst (.agg (arrV k n xs))) w) : wpList P ops Q (o :: rest) a w := by
  refine wpList_plain hg fun K hK => ?_
  unfold Oper.wp execOp
  simp only [ho, hx, Instr.loadAt, Instr.sureAddr, Sem.run_bind, Sem.run_pure, Result.andThen_ok, run_load_arr hat ht hi]
  exact hK _ _ h
theorem wpList_build_arr {ops : Array Oper} {rest : List Oper} {o : Oper} {a : Act} {w : World} {Q : Exit → Act → World → Prop} {k : IntKind} {n : Nat} {t : TypeId} (hg : o.guard = none) (ho : o.op = .build t #[]) (hb : P.built t [] = some (arrV k n []))
    (h : wpList P ops Q rest (a.put o.dst (.agg (arrV k n []))) w) : wpList P ops Q (o :: rest) a w := by
  refine wpList_build hg t #[] ho (by simpa using (by rw [hb]; rfl : (P.built t []).isSome = true)) ?_
  simp only [List.map_toArray, List.map_nil]
  rw [hb]
  exact h
end
/-! ### Of this session: a variable in memory that is an array of whole numbers: an own row of the array's type -/
def arrN (n : Nat) (xs : List Int) : List Int := (List.range n).map fun j => xs.getD j 0
/-- An array that takes another's place (what stood there is named, so that the variable is held). -/
def arrPut (n : Nat) (_xs ys : List Int) : List Int := arrN n ys
theorem arrN_length (n : Nat) (xs : List Int) : (arrN n xs).length = n := by simp [arrN]
theorem arrN_getD (n : Nat) (xs : List Int) (j : Nat) (hj : j < n) : (arrN n xs).getD j 0 = xs.getD j 0 := by simp [arrN, hj]
theorem arrV_arrN (k : IntKind) (n : Nat) (xs : List Int) : arrV k n (arrN n xs) = arrV k n xs := by
  unfold arrV
  congr 1
  exact List.map_congr_left (fun j hj => by rw [arrN_getD n xs j (List.mem_range.1 hj)])
theorem arrV_size (k : IntKind) (n : Nat) (xs : List Int) : (arrV k n xs).size = n := by simp [arrV]
theorem arrV_one (k : IntKind) (n : Nat) (xs : List Int) : (arrV k n xs).all (·.oneCell') = true := by
  rw [Array.all_eq_true_iff_forall_mem]
  intro v hv
  simp only [arrV, List.mem_toArray, List.mem_map] at hv
  obtain ⟨j, _, rfl⟩ := hv
  rfl
section
variable {P : Program} {k : IntKind} {n t g base : Nat} {ok : Nat → Prop} {W : World} {xs ys : List Int}
theorem R_arr_heap (h : (Kd.int k).R t W base ok (.slice (some ⟨g, 0, none⟩) n n) xs) : W.heap[g]? = some (.cells (arrV k n xs) t (0, 0)) ∧ xs.length = n ∧ base ≤ g := by
  have ho := Kd.own_of_R h
  have hn := (Kd.R_reads' h).1
  rcases ho.2 with ⟨h1, _⟩ | ⟨g', cap, cur, he, hg, hh, hl, hm, hsz, hc⟩
  · cases h1
  · injection he with he1 he2 he3
    injection he1 with he1
    injection he1 with he1
    subst he1
    subst he3
    refine ⟨?_, hn.symm, hg⟩
    rw [hh]
    have hcs : cur = arrV k n xs := by
      apply Array.toList_inj.1
      rw [arrV_encs k hn.symm, ← hc, List.take_of_length_le]
      simp only [Array.length_toList]
      omega
    rw [hcs]
theorem R_arr_at (h : (Kd.int k).R t W base ok (.slice (some ⟨g, 0, none⟩) n n) xs) : ArrAt k n W ⟨g, 0, none⟩ xs := by
  obtain ⟨h1, h2, _⟩ := R_arr_heap h
  refine ⟨h2, fun j hj => ?_⟩
  have ha : (⟨g, 0, none⟩ : Addr).add j = ⟨g, j, none⟩ := by
    unfold Addr.add
    split <;> simp_all
  rw [ha, cell_of_row W g j _ t (0, 0) h1]
  simp [arrV, hj]
theorem R_arr_of (hh : W.heap[g]? = some (.cells (arrV k n xs) t (0, 0))) (hl : xs.length = n) (hn : n ≤ maxLen) (hb : base ≤ g) (hok : ok g) : (Kd.int k).R t W base ok (.slice (some ⟨g, 0, none⟩) n n) xs := by
  refine Kd.R_of_own (enc := Value.int k) ⟨by rw [encs_length]; omega, .inr ⟨g, n, arrV k n xs, by rw [hl], hb, hh, by omega, hn, by rw [arrV_size]; omega, ?_⟩⟩ (fun q hq => ?_)
  · rw [arrV_encs k hl, List.take_of_length_le]
    rw [encs_length]
    omega
  · have : g = q := by simpa [Value.ownBlock] using hq
    exact this ▸ hok
theorem R_arr_put (h : (Kd.int k).R t W base ok (.slice (some ⟨g, 0, none⟩) n n) xs) (ys : List Int) :
    (Kd.int k).R t (W.setRow g (arrV k n ys)) base ok (.slice (some ⟨g, 0, none⟩) n n) (arrN n ys) ∧ W.grownBy (W.setRow g (arrV k n ys)) (some g) := by
  obtain ⟨h1, h2, h3⟩ := R_arr_heap h
  have hm : n ≤ maxLen := by
    have ho := Kd.own_of_R h
    rcases ho.2 with ⟨h4, _⟩ | ⟨g', cap, cur, he, hg, hh, hl, hm, hsz, hc⟩
    · cases h4
    · omega
  refine ⟨R_arr_of ?_ (arrN_length n ys) hm h3 (h.1 g rfl), ⟨rfl, rfl, rfl, by simp, fun i _ hi => setRow_other W g i _ (fun e => hi (by rw [e]))⟩⟩
  rw [arrV_arrN]
  exact setRow_heap W g _ _ t (0, 0) h1
variable {ops : Array Oper} {rest : List Oper} {o : Oper} {a : Act} {Q : Exit → Act → World → Prop}
/-- 'var b [n]T': the variable's block. -/
theorem arrvar_event {w0 : World} (hgd : o.guard = none) {N : Tmp} (_hd : o.dst = some N) (ho : o.op = .alloc t) (hi : (P.info? t).map (fun i => (i.zero, i.size)) = some (some (.agg (arrV k n [])), n)) (hm : n ≤ maxLen) (HB : Below W.heap.size w0 W)
    (h : ∀ g w1, (Kd.int k).R t w1 W.heap.size (fun _ => True) (.slice (some ⟨g, 0, none⟩) n n) (List.replicate n 0) → Below W.heap.size w0 w1 → W.grownBy w1 none → W.heap.size ≤ g → wpList P ops Q rest (a.put o.dst (.pointer (some ⟨g, 0, none⟩))) w1) : wpList P ops Q (o :: rest) a W := by
  obtain ⟨i0, hi0, hz⟩ := Option.map_eq_some_iff.1 hi
  simp only [Prod.mk.injEq] at hz
  obtain ⟨hz1, hz2⟩ := hz
  have hc : (Value.agg (arrV k n [])).cells = arrV k n [] := rfl
  refine Kd.event_run hgd (v := .pointer (some ⟨W.heap.size, 0, none⟩)) (w1 := W.alloc (.cells (arrV k n []) t)) ?_ (h _ _ (R_arr_of ?_ (by simp) hm (Nat.le_refl _) trivial) (HB.alloc (Nat.le_refl _) _) (World.grownBy_alloc W _ none) (Nat.le_refl _))
  · have hz : (zeroValue t).run P W = .ok (.agg (arrV k n [])) W := by simp [zeroValue, typeInfo, hi0, hz1]
    simp [execOp, ho, go_sem, hz]
  · have hr : arrV k n (List.replicate n 0) = arrV k n [] := by
      unfold arrV
      congr 1
      exact List.map_congr_left (fun j hj => by simp [List.mem_range.1 hj])
    rw [hr]
    exact heap_alloc_new W _
/-- The whole array, stored. -/
theorem arrput_event (hgd : o.guard = none) {p : Operand} {y : Operand} (ho : o.op = .store t p y) (hN : o.dst = none) (hp : a.eval p = .pointer (some ⟨g, 0, none⟩)) (hy : a.eval y = .agg (arrV k n ys)) (hi : (P.info? t).map (·.size) = some n)
    (HO : (Kd.int k).R t W base ok (.slice (some ⟨g, 0, none⟩) n n) xs)
    (h : ∀ w', (Kd.int k).R t w' base ok (.slice (some ⟨g, 0, none⟩) n n) (arrPut n xs ys) → W.grownBy w' (some g) → (∀ (B : Nat) (w0 : World), Below B w0 W → B ≤ g → Below B w0 w') → wpList P ops Q rest a w') : wpList P ops Q (o :: rest) a W := by
  obtain ⟨h1, h2, h3⟩ := R_arr_heap HO
  obtain ⟨hr, hg⟩ := R_arr_put HO ys
  refine wpList_store_row hgd t p y ho g (arrV k n ys) hp hy t _ h1 (by rw [arrV_size]; exact hi) (by rw [arrV_size, arrV_size]) (arrV_one k n ys) ?_
  rw [hN]
  exact h _ hr hg (fun B w0 hb hB => hb.grown hg (by have := blk_lt h1; omega) (fun q hq => by cases hq; exact hB))
end
theorem foldl_set (L : List Value) : ∀ (k : Nat) (zs : Array Value) (o : Nat), (∀ j : Nat, ((L.zipIdx k).foldl (fun cs (x : Value × Nat) => cs.setIfInBounds (o + x.2) x.1) zs)[j]? = if o + k ≤ j ∧ j < o + k + L.length ∧ j < zs.size then L[j - (o + k)]? else zs[j]?) ∧ ((L.zipIdx k).foldl (fun cs (x : Value × Nat) => cs.setIfInBounds (o + x.2) x.1) zs).size = zs.size := by
  induction L with
  | nil => intro k zs o; simp; intro j; omega
  | cons x r ih =>
    intro k zs o
    simp only [List.zipIdx_cons, List.foldl_cons]
    obtain ⟨h1, h2⟩ := ih (k + 1) (zs.setIfInBounds (o + k) x) o
    refine ⟨fun j => ?_, by rw [h2]; simp⟩
    rw [h1 j]
    simp only [Array.size_setIfInBounds, List.length_cons]
    by_cases hj : o + (k + 1) ≤ j ∧ j < o + (k + 1) + r.length ∧ j < zs.size
    · rw [if_pos hj, if_pos (by omega), show j - (o + k) = (j - (o + (k + 1))) + 1 by omega]
      simp
    · rw [if_neg hj]
      by_cases he : j = o + k
      · subst he
        by_cases hz : o + k < zs.size
        · rw [if_pos ⟨by omega, by omega, hz⟩]
          simp [hz]
        · rw [if_neg (by omega)]
          simp [hz]
      · rw [if_neg (by omega), Array.getElem?_setIfInBounds_ne (by omega)]
theorem fill_whole (cells zs : Array Value) (n : Nat) (h1 : cells.size = n) (h2 : zs.size = n) : Instr.fill (fun i => some (i * n, n)) zs [(0, .agg cells)] = some cells := by
  unfold Instr.fill
  have hc : (Value.agg cells).cells = cells := rfl
  simp only [hc, h1, h2, ne_eq, not_true_eq_false, decide_false, Bool.false_or, Nat.zero_mul, Nat.zero_add, Nat.lt_irrefl, gt_iff_lt, Bool.false_eq_true, if_false]
  unfold Instr.fill
  congr 1
  have hf := foldl_set cells.toList 0 zs 0
  have hz : cells.zipIdx.foldl (fun cs (x : Value × Nat) => cs.setIfInBounds x.2 x.1) zs = (cells.toList.zipIdx 0).foldl (fun cs (x : Value × Nat) => cs.setIfInBounds (0 + x.2) x.1) zs := by
    rw [← Array.foldl_toList, Array.toList_zipIdx]
    simp only [Nat.zero_add]
  rw [hz]
  apply Array.ext_getElem?
  intro j
  rw [hf.1 j]
  by_cases hj : j < n
  · rw [if_pos ⟨by omega, by simp [h1]; omega, by omega⟩]
    simp
  · rw [if_neg (by simp [h1]; omega), Array.getElem?_eq_none (by omega), Array.getElem?_eq_none (by omega)]
/-- The cells of an array. -/
def arrL (k : IntKind) (n : Nat) (xs : List Int) : List Value := (List.range n).map fun j => Value.int k (xs.getD j 0)
theorem arrL_V (k : IntKind) (n : Nat) (xs : List Int) : (arrL k n xs).toArray = arrV k n xs := rfl
theorem arr_M {k : IntKind} {n : Nat} {hs : 0 < (Kd.int k).sz} {w : World} {base : Nat} {ok : Nat → Prop} {xs : List Int} (h : xs.length = n) : (Kd.arr n (Kd.int k) hs).M w base ok xs (arrL k n xs) := by
  have e : arrL k n xs = encs (Value.int k) xs := by
    have := arrV_encs k h
    rw [← this]
    rfl
  rw [e]
  exact Kd.arr_of_cells h
/-- '[]T{x}', x an array, in a plain region. -/
theorem wpList_lit_arr {P : Program} {ops : Array Oper} {rest : List Oper} {o : Oper} {a : Act} {Q : Exit → Act → World → Prop} {W : World} {k : IntKind} {t e n : Nat} {x : Operand} {xs : List Int} (hgd : o.guard = none) (ho : o.op = .buildSlice t 1 #[(0, x)]) (hx : a.eval x = .agg (arrV k n xs)) (hu : P.underlying t = some (.slice e)) {z : Value} {bytes : Nat} (hie : (P.info? e).map (fun i => (i.zero, i.size, i.bytes)) = some (some z, n, bytes)) (hn : 0 < n) (hn2 : n ≤ 16777216)
    (h : wpList P ops Q rest (a.put o.dst (.slice (some ⟨W.heap.size, 0, none⟩) 1 1)) (W.alloc (.cells (arrL k n xs).toArray e))) : wpList P ops Q (o :: rest) a W := by
  obtain ⟨ie, hi, hzz⟩ := Option.map_eq_some_iff.1 hie
  simp only [Prod.mk.injEq] at hzz
  obtain ⟨hz0, hz1, _⟩ := hzz
  refine wpList_buildSlice hgd t e 1 _ ho (arrV k n xs) ie z hu hi hz0 (by rw [hz1]; omega) (by rw [hz1]; omega) ?_ h
  rw [hz1]
  simp only [List.map_toArray, List.map_cons, List.map_nil, hx]
  exact fill_whole (arrV k n xs) _ n (arrV_size k n xs) (by simp)

/-! #### struct type 35 -/
structure S35 where
  f0 : Int
  f1 : Int
  f2 : Int
def z35 : S35 := ⟨(0 : Int), (0 : Int), (0 : Int)⟩
def k35 : Kd S35 := Kd.iso (Kd.pair (Kd.int .i64) (Kd.pair (Kd.int .i64) (Kd.int .i64))) (fun x : S35 => (x.f0, x.f1, x.f2))
theorem k35_open {w : World} {x : S35} {cs : List Value} (h : k35.K w x cs) : cs = [.int .i64 x.f0, .int .i64 x.f1, .int .i64 x.f2] := by
  obtain ⟨_, _, rfl, rfl, ⟨_, _, rfl, rfl, rfl⟩⟩ := h
  exact rfl
theorem k35_openM {w : World} {base : Nat} {ok : Nat → Prop} {x : S35} {cs : List Value} (h : k35.M w base ok x cs) : cs = [.int .i64 x.f0, .int .i64 x.f1, .int .i64 x.f2] := by
  obtain ⟨_, _, rfl, rfl, ⟨_, _, rfl, rfl, rfl⟩⟩ := h
  exact rfl
theorem k35_mk (w : World) (x : S35)  : k35.K w x [.int .i64 x.f0, .int .i64 x.f1, .int .i64 x.f2] := ⟨[.int .i64 x.f0], [.int .i64 x.f1, .int .i64 x.f2], rfl, rfl, ⟨[.int .i64 x.f1], [.int .i64 x.f2], rfl, rfl, rfl⟩⟩
theorem k35_mkM (w : World) (base : Nat) (ok : Nat → Prop) (x : S35)  : k35.M w base ok x [.int .i64 x.f0, .int .i64 x.f1, .int .i64 x.f2] := ⟨[.int .i64 x.f0], [.int .i64 x.f1, .int .i64 x.f2], rfl, rfl, ⟨[.int .i64 x.f1], [.int .i64 x.f2], rfl, rfl, rfl⟩⟩
def rd_T35 (xs : List S35) (i : Int) : S35 := xs.getD i.toNat z35
theorem at_T35 {w : World} {A : Option Addr} {n : Nat} {xs : List S35} (h : Kd.C k35 w A n xs) (i : Int) (h0 : 0 ≤ i) (h1 : i < n) : ∃ ad , A = some ad ∧ w.cell? (ad.add (i.toNat * 3)) = some (.int .i64 (rd_T35 xs i).f0) ∧ w.cell? ⟨(ad.add (i.toNat * 3)).block, (ad.add (i.toNat * 3)).off + 1, none⟩ = some (.int .i64 (rd_T35 xs i).f1) ∧ w.cell? ⟨(ad.add (i.toNat * 3)).block, (ad.add (i.toNat * 3)).off + 2, none⟩ = some (.int .i64 (rd_T35 xs i).f2) := by
  obtain ⟨ad, c, e, _, hK, hc0⟩ := Kd.C_get h z35 i h0 h1
  have hc : ∀ j u, c[j]? = some u → w.cell? (ad.add (i.toNat * 3 + j)) = some u := hc0
  obtain rfl := k35_open hK
  exact ⟨ad, e, hc 0 _ rfl, by rw [← add_field _ _ 1 (by omega)]; exact hc 1 _ rfl, by rw [← add_field _ _ 2 (by omega)]; exact hc 2 _ rfl⟩

def rd_L3 (xs : List (List Int)) (i : Int) : (List Int) := xs.getD i.toNat ([] : List Int)
theorem at_L3 {w : World} {A : Option Addr} {n : Nat} {xs : List (List Int)} (h : Kd.C (Kd.slice 49 (Kd.int .u16)) w A n xs) (i : Int) (h0 : 0 ≤ i) (h1 : i < n) : ∃ ad A0 c0, A = some ad ∧ w.cell? (ad.add i.toNat) = some (.slice A0 (rd_L3 xs i).length c0) ∧ (rd_L3 xs i).length ≤ c0 ∧ (Kd.int .u16).C w A0 (rd_L3 xs i).length (rd_L3 xs i) := by
  obtain ⟨ad, c, e, _, hK, hc0⟩ := Kd.C_get h ([] : List Int) i h0 h1
  have hc : ∀ j u, c[j]? = some u → w.cell? (ad.add (i.toNat * 1 + j)) = some u := hc0
  obtain ⟨A0, c0, rfl, l0, g0⟩ := hK
  exact ⟨ad, A0, c0, e, by have hq := hc 0 _ rfl; rwa [Nat.mul_one, Nat.add_zero] at hq, l0, g0⟩

def rd_L4 (xs : List (List Int)) (i : Int) : List Int := xs.getD i.toNat []
theorem at_L4 {w : World} {A : Option Addr} {n : Nat} {xs : List (List Int)} (h : Kd.C (Kd.arr 64 (Kd.int .u16) (by decide)) w A n xs) (i : Int) (h0 : 0 ≤ i) (h1 : i < n) : ∃ ad, A = some ad ∧ ArrAt .u16 64 w (ad.add (i.toNat * 64)) (rd_L4 xs i) := arrAt_of h i h0 h1
def rd_L5 (xs : List (List (List Int))) (i : Int) : (List (List Int)) := xs.getD i.toNat ([] : List (List Int))
theorem at_L5 {w : World} {A : Option Addr} {n : Nat} {xs : List (List (List Int))} (h : Kd.C (Kd.slice 50 (Kd.arr 64 (Kd.int .u16) (by decide))) w A n xs) (i : Int) (h0 : 0 ≤ i) (h1 : i < n) : ∃ ad A0 c0, A = some ad ∧ w.cell? (ad.add i.toNat) = some (.slice A0 (rd_L5 xs i).length c0) ∧ (rd_L5 xs i).length ≤ c0 ∧ (Kd.arr 64 (Kd.int .u16) (by decide)).C w A0 (rd_L5 xs i).length (rd_L5 xs i) := by
  obtain ⟨ad, c, e, _, hK, hc0⟩ := Kd.C_get h ([] : List (List Int)) i h0 h1
  have hc : ∀ j u, c[j]? = some u → w.cell? (ad.add (i.toNat * 1 + j)) = some u := hc0
  obtain ⟨A0, c0, rfl, l0, g0⟩ := hK
  exact ⟨ad, A0, c0, e, by have hq := hc 0 _ rfl; rwa [Nat.mul_one, Nat.add_zero] at hq, l0, g0⟩

/-! #### struct type 57 -/
structure S57 where
  f0 : Int
  f1 : (List Int)
  f2 : (List (List Int))
def z57 : S57 := ⟨(0 : Int), ([] : List Int), ([] : List (List Int))⟩
def k57 : Kd S57 := Kd.iso (Kd.pair (Kd.int .i64) (Kd.pair (Kd.slice 49 (Kd.int .u16)) (Kd.slice 50 (Kd.arr 64 (Kd.int .u16) (by decide))))) (fun x : S57 => (x.f0, x.f1, x.f2))
theorem k57_open {w : World} {x : S57} {cs : List Value} (h : k57.K w x cs) : ∃ A1 c1 A2 c2, cs = [.int .i64 x.f0, .slice A1 x.f1.length c1, .slice A2 x.f2.length c2] ∧ x.f1.length ≤ c1 ∧ (Kd.int .u16).C w A1 x.f1.length x.f1 ∧ x.f2.length ≤ c2 ∧ (Kd.arr 64 (Kd.int .u16) (by decide)).C w A2 x.f2.length x.f2 := by
  obtain ⟨_, _, rfl, rfl, ⟨_, _, rfl, ⟨A1, c1, rfl, l1, g1⟩, ⟨A2, c2, rfl, l2, g2⟩⟩⟩ := h
  exact ⟨A1, c1, A2, c2, rfl, l1, g1, l2, g2⟩
theorem k57_openM {w : World} {base : Nat} {ok : Nat → Prop} {x : S57} {cs : List Value} (h : k57.M w base ok x cs) : ∃ v1 v2, cs = [.int .i64 x.f0, v1, v2] ∧ (Kd.int .u16).R 49 w base ok v1 x.f1 ∧ (Kd.arr 64 (Kd.int .u16) (by decide)).R 50 w base ok v2 x.f2 := by
  obtain ⟨_, _, rfl, rfl, ⟨_, _, rfl, ⟨v1, rfl, g1⟩, ⟨v2, rfl, g2⟩⟩⟩ := h
  exact ⟨v1, v2, rfl, g1, g2⟩
theorem k57_mk (w : World) (x : S57) {A1 : Option Addr} {c1 : Nat} (l1 : x.f1.length ≤ c1) (g1 : (Kd.int .u16).C w A1 x.f1.length x.f1) {A2 : Option Addr} {c2 : Nat} (l2 : x.f2.length ≤ c2) (g2 : (Kd.arr 64 (Kd.int .u16) (by decide)).C w A2 x.f2.length x.f2) : k57.K w x [.int .i64 x.f0, .slice A1 x.f1.length c1, .slice A2 x.f2.length c2] := ⟨[.int .i64 x.f0], [.slice A1 x.f1.length c1, .slice A2 x.f2.length c2], rfl, rfl, ⟨[.slice A1 x.f1.length c1], [.slice A2 x.f2.length c2], rfl, ⟨A1, c1, rfl, l1, g1⟩, ⟨A2, c2, rfl, l2, g2⟩⟩⟩
theorem k57_mkM (w : World) (base : Nat) (ok : Nat → Prop) (x : S57) {v1 : Value} (g1 : (Kd.int .u16).R 49 w base ok v1 x.f1) {v2 : Value} (g2 : (Kd.arr 64 (Kd.int .u16) (by decide)).R 50 w base ok v2 x.f2) : k57.M w base ok x [.int .i64 x.f0, v1, v2] := ⟨[.int .i64 x.f0], [v1, v2], rfl, rfl, ⟨[v1], [v2], rfl, ⟨v1, rfl, g1⟩, ⟨v2, rfl, g2⟩⟩⟩
def rd_T57 (xs : List S57) (i : Int) : S57 := xs.getD i.toNat z57
theorem at_T57 {w : World} {A : Option Addr} {n : Nat} {xs : List S57} (h : Kd.C k57 w A n xs) (i : Int) (h0 : 0 ≤ i) (h1 : i < n) : ∃ ad A1 c1 A2 c2, A = some ad ∧ w.cell? (ad.add (i.toNat * 3)) = some (.int .i64 (rd_T57 xs i).f0) ∧ w.cell? ⟨(ad.add (i.toNat * 3)).block, (ad.add (i.toNat * 3)).off + 1, none⟩ = some (.slice A1 (rd_T57 xs i).f1.length c1) ∧ w.cell? ⟨(ad.add (i.toNat * 3)).block, (ad.add (i.toNat * 3)).off + 2, none⟩ = some (.slice A2 (rd_T57 xs i).f2.length c2) ∧ (rd_T57 xs i).f1.length ≤ c1 ∧ (Kd.int .u16).C w A1 (rd_T57 xs i).f1.length (rd_T57 xs i).f1 ∧ (rd_T57 xs i).f2.length ≤ c2 ∧ (Kd.arr 64 (Kd.int .u16) (by decide)).C w A2 (rd_T57 xs i).f2.length (rd_T57 xs i).f2 := by
  obtain ⟨ad, c, e, _, hK, hc0⟩ := Kd.C_get h z57 i h0 h1
  have hc : ∀ j u, c[j]? = some u → w.cell? (ad.add (i.toNat * 3 + j)) = some u := hc0
  obtain ⟨A1, c1, A2, c2, rfl, l1, g1, l2, g2⟩ := k57_open hK
  exact ⟨ad, A1, c1, A2, c2, e, hc 0 _ rfl, by rw [← add_field _ _ 1 (by omega)]; exact hc 1 _ rfl, by rw [← add_field _ _ 2 (by omega)]; exact hc 2 _ rfl, l1, g1, l2, g2⟩

theorem eqA50 (d : Nat) (w : World) (xs ys : List Int) : (Op.equalIn (d + 2) 50 (.agg (arrV .u16 64 xs)) (.agg (arrV .u16 64 ys))).run Try.prog w = .ok (arrEq 64 xs ys) w := by
  obtain ⟨i0, hi, _⟩ := info_parts info49
  exact eqArr Try.underlying50 Try.underlying49 hi (by kernel_rfl) d w xs ys
/-! ### Of this session: a law's arguments opened, whatever they are made of -/
def Down (P : Program) (t : TypeId) {α : Type} (K : World → α → List Value → Prop) (Q : α → Prop) : Prop :=
  ∀ {H : Type} {enc : TypeId × Value → H} {w : World} {base : Nat} {spare : Nat → Bool} {held : Bool} {fuel : Nat} {cs : List Value} {x : DataW H × List MemPlace},
    DataW.trod enc P w base spare held fuel t cs = some x → ∃ a, K w a cs ∧ ((∀ n ∈ x.1.weights P t, n ≤ reachBytes) → Q a)
theorem down_int {P : Program} {t : TypeId} {k : IntKind} (ht : P.underlying t = some (.int k)) : Down P t (Kd.int k).K (fun a => (Lit.int k a).wf = true) := by
  intro H enc w base spare held fuel cs x h
  obtain ⟨n, rfl, rfl, hw⟩ := DataW.trod_int ht h
  exact ⟨n, rfl, fun _ => hw⟩
theorem down_bool {P : Program} {t : TypeId} (ht : P.underlying t = some .bool) : Down P t Kd.bool.K (fun _ => True) := by
  intro H enc w base spare held fuel cs x h
  obtain ⟨n, rfl, rfl⟩ := DataW.trod_bool ht h
  exact ⟨n, rfl, fun _ => trivial⟩
theorem down_string {P : Program} {t : TypeId} (ht : P.underlying t = some .string) : Down P t Kd.string.K (fun a => a.size ≤ 140737488351232) := by
  intro H enc w base spare held fuel cs x h
  obtain ⟨s, rfl, rfl, hs⟩ := DataW.trod_string ht h
  refine ⟨s, rfl, fun hw => ?_⟩
  have z := hw s.data.toList.length (by simp [DataW.weights])
  rw [Array.length_toList] at z
  exact z
theorem weights_all {H : Type} {P : Program} {e : TypeId} : ∀ {l : List (DataW H)} {d : DataW H}, d ∈ l → ∀ n ∈ d.weights P e, n ∈ DataW.weightsAll P e l
  | d0 :: r, d, hd, n, hn => by
    simp only [DataW.weightsAll, List.mem_append]
    rcases List.mem_cons.1 hd with rfl | hd
    · exact .inl hn
    · exact .inr (weights_all hd n hn)
theorem down_slice {P : Program} {α : Type} [Inhabited α] {d : Kd α} {Q : α → Prop} {t e B : Nat} (ht : P.underlying t = some (.slice e)) (hC : P.cellsOf e = d.sz) (hB : P.bytesOf e = B) (hd : Down P e d.K Q) :
    Down P t (Kd.slice e d).K (fun l => l.length * B ≤ 140737488351232 ∧ ∀ x ∈ l, Q x) := by
  intro H enc w base spare held fuel cs x h
  rcases Go.Deep.open_slice ht h with ⟨rfl, rfl⟩ | ⟨a, len, cap, m, n, D, Pl, rfl, hb, hl, hm, hmm, rfl, hi⟩
  · exact ⟨[], ⟨none, 0, rfl, Nat.le_refl _, Kd.C_nil _ _⟩, fun _ => ⟨by simp, by simp⟩⟩
  · have hlm : len ≤ m := by
      rw [hmm]
      split <;> omega
    obtain ⟨f, hf⟩ := Go.Deep.choose_lt (n := len) (p := fun i y => ∃ cs', w.cells? base (a.add (i * P.cellsOf e)) (P.cellsOf e) = some cs' ∧ d.K w y cs' ∧ ((∀ n ∈ (D i).weights P e, n ≤ reachBytes) → Q y)) (fun i hi' => by
      obtain ⟨cs', hc, ht'⟩ := hi i (by omega)
      obtain ⟨y, hy, hq⟩ := hd ht'
      exact ⟨y, cs', hc, hy, hq⟩)
    refine ⟨(List.range len).map f, ⟨some a, cap, by simp, by simpa using hl, ?_⟩, fun hw => ⟨?_, ?_⟩⟩
    · have hle : len ≤ 9223372036854775807 := by
        simp only [maxLen] at hm
        omega
      refine ⟨by simp, by simpa using hle, fun _ => ⟨a, rfl, fun j p hj => ?_⟩⟩
      have hj' : j < len := by
        have := (List.getElem?_eq_some_iff.1 hj).1
        simpa using this
      have hp : f j = p := by simpa [hj'] using hj
      obtain ⟨cs', hc, hk, _⟩ := hf j hj'
      obtain ⟨_, hcl, hat⟩ := World.cells?_some hc
      refine ⟨cs', by rw [hcl, hC], hp ▸ hk, fun i u hu => ?_⟩
      have hil : i < cs'.length := (List.getElem?_eq_some_iff.1 hu).1
      have h1 := hat i (by omega)
      rw [Go.Deep.add_add, hC] at h1
      rw [h1, hu]
    · have h1 := hw ((((List.range len).map D).length + ((List.range (m - len)).map fun j => D (len + j)).length) * P.bytesOf e) (by simp [DataW.weights, ht])
      simp only [List.length_map, List.length_range] at h1 ⊢
      rw [hB] at h1
      have h2 : len * B ≤ (len + (m - len)) * B := Nat.mul_le_mul_right _ (Nat.le_add_right _ _)
      exact Nat.le_trans h2 h1
    · intro y hy
      obtain ⟨i, hir, rfl⟩ := List.mem_map.1 hy
      have hil : i < len := List.mem_range.1 hir
      obtain ⟨_, _, _, hq⟩ := hf i hil
      refine hq (fun n hn => hw n ?_)
      have h1 := weights_all (P := P) (e := e) (l := (List.range len).map D) (List.mem_map.2 ⟨i, hir, rfl⟩) n hn
      simp only [DataW.weights, ht, List.mem_cons, List.mem_append]
      exact .inr (.inl h1)
theorem arg_slice {P : Program} {α : Type} {d : Kd α} {Q : List α → Prop} {H : Type} {enc : TypeId × Value → H} {W : World} {base : Nat} {spare : Nat → Bool} {held : Bool} {t e : TypeId} {a : Option Addr} {len cap : Nat} {dd : DataW H} {ps : List MemPlace} {ts : List TypeId} {ds : List (DataW H)} {j : Nat}
    (hd : Down P t (Kd.slice e d).K Q) (hsz : (DataW.weightsEach P ts ds).all (· ≤ reachBytes) = true) (ht : ts[j]? = some t) (hdd : ds[j]? = some dd) (h : DataW.Trod enc P W base spare held t (.slice a len cap) dd ps) :
    ∃ l, l.length = len ∧ len ≤ cap ∧ d.C W a len l ∧ Q l := by
  obtain ⟨fuel, hf⟩ := h
  obtain ⟨l, ⟨A, c, he, hl, hC⟩, hq⟩ := hd hf
  simp [Value.cells] at he
  obtain ⟨rfl, rfl, rfl⟩ := he
  refine ⟨l, rfl, hl, hC, hq (fun n hn => ?_)⟩
  have z := List.all_eq_true.1 hsz _ (DataW.weights_mem_each ht hdd n hn)
  simpa using z
theorem arg_struct {P : Program} {α : Type} {K : World → α → List Value → Prop} {Q : α → Prop} {H : Type} {enc : TypeId × Value → H} {W : World} {base : Nat} {spare : Nat → Bool} {held : Bool} {t : TypeId} {v : Value} {dd : DataW H} {ps : List MemPlace} {ts : List TypeId} {ds : List (DataW H)} {j : Nat}
    (hd : Down P t K Q) (hsz : (DataW.weightsEach P ts ds).all (· ≤ reachBytes) = true) (ht : ts[j]? = some t) (hdd : ds[j]? = some dd) (h : DataW.Trod enc P W base spare held t v dd ps) :
    ∃ x, K W x v.cells.toList ∧ Q x := by
  obtain ⟨fuel, hf⟩ := h
  obtain ⟨x, hK, hq⟩ := hd hf
  refine ⟨x, hK, hq (fun n hn => ?_)⟩
  have z := List.all_eq_true.1 hsz _ (DataW.weights_mem_each ht hdd n hn)
  simpa using z

def S35.wf (x : S35) : Prop := ((Lit.int .i64 x.f0).wf = true) ∧ ((Lit.int .i64 x.f1).wf = true) ∧ ((Lit.int .i64 x.f2).wf = true)
instance : Inhabited S35 := ⟨z35⟩
theorem down_S35 : Down Try.prog 35 k35.K S35.wf := by
  intro H enc w base spare held fuel cs x h
  obtain ⟨ys, n, -, hx, hlen, hyl, hf⟩ := DataW.trod_struct Try.underlying35 h
  subst hx
  have hcl : cs.length = 3 := hlen.trans (by kernel_rfl)
  obtain ⟨c0, c1, c2, rfl⟩ : ∃ c0 c1 c2, cs = [c0, c1, c2] := by
    match cs, hcl with
    | [c0, c1, c2], _ => exact ⟨_, _, _, rfl⟩
  have hyl2 : ys.length = 3 := hyl
  obtain ⟨y0, y1, y2, rfl⟩ : ∃ y0 y1 y2, ys = [y0, y1, y2] := by
    match ys, hyl2 with
    | [y0, y1, y2], _ => exact ⟨_, _, _, rfl⟩
  have g0 : DataW.trod enc Try.prog w base spare held n 3 [c0] = some y0 := by
    have e1 : Try.prog.cellsOf 3 = 1 := by kernel_rfl
    have e2 : DataW.trod enc Try.prog w base spare held n 3 (([c0, c1, c2].drop 0).take (Try.prog.cellsOf 3)) = some y0 := hf 0 _ rfl
    rw [e1] at e2
    exact e2
  have g1 : DataW.trod enc Try.prog w base spare held n 3 [c1] = some y1 := by
    have e1 : Try.prog.cellsOf 3 = 1 := by kernel_rfl
    have e2 : DataW.trod enc Try.prog w base spare held n 3 (([c0, c1, c2].drop 1).take (Try.prog.cellsOf 3)) = some y1 := hf 1 _ rfl
    rw [e1] at e2
    exact e2
  have g2 : DataW.trod enc Try.prog w base spare held n 3 [c2] = some y2 := by
    have e1 : Try.prog.cellsOf 3 = 1 := by kernel_rfl
    have e2 : DataW.trod enc Try.prog w base spare held n 3 (([c0, c1, c2].drop 2).take (Try.prog.cellsOf 3)) = some y2 := hf 2 _ rfl
    rw [e1] at e2
    exact e2
  obtain ⟨b0, u0, q0⟩ := (down_int Try.underlying3) g0
  obtain ⟨b1, u1, q1⟩ := (down_int Try.underlying3) g1
  obtain ⟨b2, u2, q2⟩ := (down_int Try.underlying3) g2
  injection u0 with u0
  subst u0
  injection u1 with u1
  subst u1
  injection u2 with u2
  subst u2
  refine ⟨⟨b0, b1, b2⟩, k35_mk w ⟨b0, b1, b2⟩, fun hw => ?_⟩
  simp only [DataW.weights, Try.underlying35, List.map_cons, List.map_nil, DataW.weightsEach, List.mem_append, List.not_mem_nil, or_false] at hw
  exact ⟨q0 (fun m hm => hw m (.inl hm)), q1 (fun m hm => hw m (.inr (.inl hm))), q2 (fun m hm => hw m (.inr (.inr hm)))⟩
end Go.Proofs.Ytiaodapgankjnaa.Q
