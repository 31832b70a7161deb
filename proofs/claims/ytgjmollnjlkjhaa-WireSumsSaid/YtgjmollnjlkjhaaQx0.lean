-- Written by wip/tools/pr.py of this session over the kit's print (widened); the words are the kit's print's own. Not trusted: Lean checks it.
import Derived.Test.YtgjmollnjlkjhaaProg
import Derived.Below
import Derived.Deep.Draws
import Derived.Deep.AppendLies
import Derived.Maps.AppendAt
import Derived.OwnWalk
import Derived.Laws.BytesArg
import Derived.Laws.MakeOwn
import Derived.Laws.OwnMore
import Derived.Deep.OwnRows
import Derived.Tactics
import Derived.Lib.ConvBytes
import Derived.Laws.Slices
import Derived.WalkKit
import Derived.KernelRfl
import Derived.RowKit3
import Derived.Deep.LoopGhost
import Derived.Deep.QuietTactic
import Derived.BigQuiet
import Derived.WideLaws
import Derived.Deep.DeepCutAuto
import Derived.Deep.CutBlock
import Derived.Deep.RegionHeld3
import Derived.Laws.Rows
import Derived.Lib.AppendStr
import Derived.ArgAppend
import Derived.Laws.IdiomCopy
import Derived.OrdersHeld
import Derived.Laws.BitsLemmas
import Derived.RowKit
import Derived.Laws.Cover2
import Derived.Laws.Externs
import Derived.Lib.SlBytesConst
import Derived.Test.YtgjmollnjlkjhaaWWords
import Derived.Test.YtgjmollnjlkjhaaWLast
import Derived.Test.YtgjmollnjlkjhaaWTab
import Derived.Test.YtgjmollnjlkjhaaWFour
import Derived.Test.YtgjmollnjlkjhaaWQPut
import Derived.Test.YtgjmollnjlkjhaaWApart
import Derived.Test.YtgjmollnjlkjhaaWArr
import Derived.Test.YtgjmollnjlkjhaaWZeros
import Derived.Test.YtgjmollnjlkjhaaWFoot
import Derived.Test.YtgjmollnjlkjhaaWKept
import Derived.Test.YtgjmollnjlkjhaaWShare
import Derived.Test.YtgjmollnjlkjhaaWN
import Derived.Test.YtgjmollnjlkjhaaWFootNe
import Derived.Test.YtgjmollnjlkjhaaWAt
import Derived.Test.YtgjmollnjlkjhaaWEqStruct
import Derived.Test.YtgjmollnjlkjhaaWRepsOne
import Derived.Test.YtgjmollnjlkjhaaWInv
import Derived.Test.YtgjmollnjlkjhaaWInvWords
import Derived.Test.YtgjmollnjlkjhaaWGuard
import Derived.Test.YtgjmollnjlkjhaaWNEv
import Derived.Test.YtgjmollnjlkjhaaWMore
namespace Go.Proofs.Ytgjmollnjlkjhaa.Q
open Go.RowKit Go.Proofs.YtgjmollnjlkjhaaW.PrintWords Go.Proofs.YtgjmollnjlkjhaaW.PrintLast Go.Proofs.YtgjmollnjlkjhaaW.PrintMore
attribute [local go_sem] max2_int min2_int max_two min_two max_three min_three max_four min_four   -- for this text's walks alone
set_option linter.unusedVariables false
set_option linter.unusedSimpArgs false



def errW : Option Int → Value
  | none => .nilIface
  | some c => .iface 0 (.int .i64 c)
theorem errW_none : errW none = .nilIface := rfl
theorem errW_some (c : Int) : errW (some c) = .iface 0 (.int .i64 c) := rfl

/-! ### Of this session: a make with a capacity; a cut with three indexes -/
section
variable {P : Program} {ops : Array Oper} {rest : List Oper} {o : Oper} {a : Act} {Q : Exit → Act → World → Prop}
theorem R_make0 {α : Type} (d : Kd α) {w0 W : World} (base e : Nat) (hgd : o.guard = none) {N : Tmp} (hd : o.dst = some N) (t : TypeId) (x y : Operand) (ho : o.op = .makeSlice t x y) (n : Int) (hx : a.eval x = .int .i64 0) (hy : a.eval y = .int .i64 n)
    (ht : P.underlying t = some (.slice e)) (z : Value) (bytes : Nat) (hinfo : (P.info? e).map (fun i => (i.zero, i.size, i.bytes)) = some (some z, d.sz, bytes)) (hz : z.cells.size = d.sz) (hs0 : 0 < d.sz) (hb0 : 0 < bytes)
    (z0 : α) {ok okp : Nat → Prop} (hzero : d.M W base okp z0 z.cells.toList) (hok : ∀ k, okp k → ok k) (hfresh : ok W.heap.size) (h0 : 0 ≤ n) (hl : n.toNat * bytes ≤ 281474976710656) (HB : Below base w0 W) (hbase : base ≤ W.heap.size)
    (h : ∀ v1 w1, d.R e w1 base ok v1 [] → Below base w0 w1 → W.grownBy w1 none → (∃ b, v1.ownBlock = some b ∧ W.heap.size ≤ b) → wpList P ops Q rest (a.put o.dst v1) w1) : wpList P ops Q (o :: rest) a W := by
  obtain ⟨m, rfl⟩ := Int.eq_ofNat_of_zero_le h0
  simp only [Int.toNat_natCast] at hl
  obtain ⟨i0, hi, hzz⟩ := Option.map_eq_some_iff.1 hinfo
  simp only [Prod.mk.injEq] at hzz
  obtain ⟨hz0, hz1, hz2⟩ := hzz
  have hm : m ≤ 281474976710656 := Nat.le_trans (Nat.le_mul_of_pos_right _ hb0) hl
  have hr := run_make (P := P) W t e i0 z ht hi hz0 .i64 .i64 0 (m : Int) (by omega) (by omega)
    (by
      have h3 : ((i0.bytes * m : Nat) : Int) ≤ 281474976710656 := by rw [hz2, Nat.mul_comm]; omega
      rwa [Int.natCast_mul] at h3) (by omega)
  simp only [Int.toNat_natCast, Int.toNat_zero] at hr
  rw [hz1] at hr
  refine Kd.event_run hgd (v := .slice (some ⟨W.heap.size, 0, none⟩) 0 m) (w1 := W.alloc (.cells (madeCells z.cells (m * d.sz)) e)) (by simp [execOp, ho, hx, hy, hr])
    (h _ _ ⟨fun k hk => ?_, [], ⟨by simp, .inr ⟨W.heap.size, m, madeCells z.cells (m * d.sz), rfl, hbase, heap_alloc_new W _, by simp, by simp only [maxLen]; omega, size_madeCells _ _, by simp⟩⟩, Reps.none _ _⟩ (HB.alloc hbase _) (World.grownBy_alloc W _ none) ⟨W.heap.size, by simp [Value.ownBlock], Nat.le_refl _⟩)
  have : W.heap.size = k := by simpa [Value.ownBlock] using hk
  subst this
  exact hfresh
end
theorem run_cut3 {P : Program} (t e : TypeId) {i : TypeInfo} (ht : P.underlying t = some (.slice e)) (hi : P.info? e = some i) (hsz : i.size = 1) (A : Option Addr) (n c p q : Nat) (h2 : p + q ≤ n) (hc : n ≤ c) :
    ∃ A' : Option Addr, (∀ W : World, (Instr.slice t (.slice A n c) (some (.int .i64 (p : Int))) (some (.int .i64 ((p : Int) + (q : Int)))) (some (.int .i64 ((p : Int) + (q : Int))))).run P W = .ok (.slice A' q q) W) ∧
      ∀ (w : World) (xs : List Int), (Kd.int .u8).C w A n xs → (Kd.int .u8).C w A' q ((xs.drop p).take q) := by
  have hel : P.elem t = e := by simp [Program.elem, ht]
  have hu : P.underlying t = some (.slice (P.elem t)) := by rw [hel]; exact ht
  have hz : ((p : Int) + (q : Int)).toNat = p + q := by omega
  refine ⟨if p + q = p then A else A.map (·.add p), fun W => ?_, fun w xs h => ?_⟩
  · rw [run_slice_lhm W t A n c hu .i64 .i64 .i64 (p : Int) ((p : Int) + (q : Int)) ((p : Int) + (q : Int)) (by omega) (by omega) (by omega) (by omega), hel]
    simp [sizeOf, typeInfo, hi, hsz, sliced, Result.andThen, hz]
  · have hR := Kd.reads_of_C (enc := Value.int .u8) (d := (0 : Int)) (h1 := fun _ => rfl) h
    rcases Nat.eq_zero_or_pos q with h0 | h0
    · subst h0
      refine Kd.C_of_reads (d := (0 : Int)) ?_
      exact ⟨by simp, by omega, fun hp => absurd hp (by omega)⟩
    · refine Kd.C_of_reads (d := (0 : Int)) ?_
      rw [if_neg (by omega)]
      obtain ⟨l1, l2, l3⟩ := hR
      refine ⟨by simp; omega, by omega, fun _ => ?_⟩
      obtain ⟨ad, rfl, hcell⟩ := l3 (by omega)
      refine ⟨ad.add p, rfl, fun j hj => ?_⟩
      have ha : (ad.add p).add j = ad.add (p + j) := by
        unfold Addr.add
        by_cases h1 : p = 0 <;> by_cases h2 : j = 0 <;> simp [h1, h2, Nat.add_assoc]
      rw [ha, hcell (p + j) (by omega)]
      simp [List.getD_eq_getElem?_getD, List.getElem?_drop, List.getElem?_take, hj]
theorem C_string_at {P : Program} {w : World} {src dst e : TypeId} {A : Option Addr} {n c : Nat} {xs : List Int} (hs : P.underlying src = some (.slice e)) (he : P.underlying e = some (.int .u8)) (hd : P.underlying dst = some .string)
    (h : (Kd.int .u8).C w A n xs) : ∀ n' : Nat, n' = n → (convert src dst (.slice A n' c)).run P w = .ok (.string (strOfNums xs)) w := fun _ e' => by subst e'; exact Kd.C_string hs he hd h
theorem C_string_drew {P : Program} {w : World} {src dst e : TypeId} {A : Option Addr} {n c : Nat} {xs : List Int} (hs : P.underlying src = some (.slice e)) (he : P.underlying e = some (.int .u8)) (hd : P.underlying dst = some .string)
    (h : (Kd.int .u8).C w A n xs) : ∀ m n' : Nat, n' = n → (convert src dst (.slice A n' c)).run P (w.drewN m) = .ok (.string (strOfNums xs)) (w.drewN m) := fun m _ e' => by subst e'; exact Kd.C_string hs he hd (Kd.C_drewN h m)
theorem C_block {W : World} {g e : Nat} {fr : Nat × Nat} (k : IntKind) (xs : List Int) (hm : xs.length ≤ 9223372036854775807) (h : W.heap[g]? = some (.cells (nums k xs).toArray e fr)) : (Kd.int k).C W (some ⟨g, 0, none⟩) xs.length xs := by
  refine Kd.C_of_reads (d := (0 : Int)) ⟨rfl, hm, fun _ => ⟨_, rfl, fun j hj => ?_⟩⟩
  rw [add_plain, cell_of_row W g j _ e fr h]
  simp [nums, List.getElem?_eq_getElem hj, List.getD_eq_getElem?_getD]
theorem C_block2 {W : World} {g e : Nat} {fr : Nat × Nat} (t : Nat) {A B : Option Addr} {c d : Nat} (xs ys : List Int) (h : W.heap[g]? = some (.cells #[.slice A xs.length c, .slice B ys.length d] e fr)) (hc : xs.length ≤ c) (hd : ys.length ≤ d)
    (hx : (Kd.int .u8).C W A xs.length xs) (hy : (Kd.int .u8).C W B ys.length ys) : (Kd.slice t (Kd.int .u8)).C W (some ⟨g, 0, none⟩) 2 [xs, ys] := by
  refine ⟨rfl, by decide, fun _ => ⟨_, rfl, fun j p hj => ?_⟩⟩
  rcases j with _ | _ | j
  · obtain rfl : xs = p := by simpa using hj
    refine ⟨[.slice A xs.length c], rfl, ⟨A, c, rfl, hc, hx⟩, fun i u hu => ?_⟩
    rcases i with _ | i
    · rw [add_plain, cell_of_row W g _ _ e fr h]; simpa using hu
    · simp at hu
  · obtain rfl : ys = p := by simpa using hj
    refine ⟨[.slice B ys.length d], rfl, ⟨B, d, rfl, hd, hy⟩, fun i u hu => ?_⟩
    rcases i with _ | i
    · rw [add_plain, cell_of_row W g _ _ e fr h]; simpa [Kd.slice] using hu
    · simp at hu
  · simp at hj
theorem C_new {W : World} {g e : Nat} (k : IntKind) (xs : List Int) (hm : xs.length ≤ 9223372036854775807) (hg : g = W.heap.size) {fr : Nat × Nat} : (Kd.int k).C (W.alloc (.cells (nums k xs).toArray e fr)) (some ⟨g, 0, none⟩) xs.length xs := by
  subst hg
  exact C_block k xs hm (heap_alloc_new W _)
theorem heap_alloc_eq {W : World} {o : Obj} {g : Nat} (hg : g = W.heap.size) : (W.alloc o).heap[g]? = some o := by subst hg; exact heap_alloc_new W o
theorem cut_cap {P : Program} (t e : TypeId) {i : TypeInfo} (ht : P.underlying t = some (.slice e)) (hi : P.info? e = some i) (A : Option Addr) (n c m : Nat) (hm : m ≤ c) (W : World) :
    (Instr.slice t (.slice A n c) none (some (.int .i64 (m : Int))) none).run P W = .ok (.slice A m c) W := by
  have hel : P.elem t = e := by simp [Program.elem, ht]
  have hu : P.underlying t = some (.slice (P.elem t)) := by rw [hel]; exact ht
  have ha : (A.map fun x => x.add 0) = A := by cases A <;> simp [Addr.add]
  rw [run_slice_h W t A n c hu .i64 (m : Int) (by omega) (by omega), hel]
  simp [sizeOf, typeInfo, hi, sliced, Result.andThen, ha]
abbrev o_ : Bool := false
abbrev x_ : Bool := true

def kF64 : Kd Nat := Kd.scalar (Value.float .f64) (fun _ => rfl)
theorem kF64_heap : Kd.Heap kF64 := ⟨fun _ h => h⟩
theorem at_f64 {w : World} {A : Option Addr} {n : Nat} {xs : List Nat} (h : kF64.C w A n xs) (i : Int) (h0 : 0 ≤ i) (h1 : i < n) : ∃ ad, A = some ad ∧ w.cell? (ad.add i.toNat) = some (.float .f64 (rdOf 0 xs i)) :=
  ReadsOf.at_ (Kd.reads_of_C (enc := Value.float .f64) (d := (0 : Nat)) (h1 := fun _ => rfl) h) i h0 h1

theorem info5 : (Try.prog.info? 5).map (fun i => (i.zero, i.size, i.bytes)) = some (some (.int .u8 0), 1, 1) := by kernel_rfl
theorem info22 : (Try.prog.info? 22).map (fun i => (i.zero, i.size, i.bytes)) = some (some (.slice none 0 0), 1, 24) := by kernel_rfl
-- the values' own types
def rd_L1 (xs : List (List Int)) (i : Int) : (List Int) := xs.getD i.toNat ([] : List Int)
theorem at_L1 {w : World} {A : Option Addr} {n : Nat} {xs : List (List Int)} (h : Kd.C (Kd.slice 5 (Kd.int .u8)) w A n xs) (i : Int) (h0 : 0 ≤ i) (h1 : i < n) : ∃ ad A0 c0, A = some ad ∧ w.cell? (ad.add i.toNat) = some (.slice A0 (rd_L1 xs i).length c0) ∧ (rd_L1 xs i).length ≤ c0 ∧ (Kd.int .u8).C w A0 (rd_L1 xs i).length (rd_L1 xs i) := by
  obtain ⟨ad, c, e, _, hK, hc0⟩ := Kd.C_get h ([] : List Int) i h0 h1
  have hc : ∀ j u, c[j]? = some u → w.cell? (ad.add (i.toNat * 1 + j)) = some u := hc0
  obtain ⟨A0, c0, rfl, l0, g0⟩ := hK
  exact ⟨ad, A0, c0, e, by have hq := hc 0 _ rfl; rwa [Nat.mul_one, Nat.add_zero] at hq, l0, g0⟩

end Go.Proofs.Ytgjmollnjlkjhaa.Q
