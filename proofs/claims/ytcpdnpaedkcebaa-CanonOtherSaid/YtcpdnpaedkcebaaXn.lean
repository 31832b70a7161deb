/- Contracts by hand: canon.Check. -/
import Derived.Test.YtcpdnpaedkcebaaXm
namespace Go.Proofs.Ytcpdnpaedkcebaa.V
open Go Go.RowKit
set_option linter.unusedVariables false
set_option linter.unusedSimpArgs false
set_option maxRecDepth 100000
def rs26 : List (Nat × Option Nat × Mode) := [(2, none, .plain), (3, none, .plain)]
def y4 (f : Func) : Array Oper := opsOf (seqA (seqB (seqB (codeOf f))))
def y13 (f : Func) : Array Oper := opsOf (seqA (seqA (seqB (condT (seqB (seqB (seqB (blkC (seqA (seqB (seqB (loopC (blkC (seqB (seqA (seqB (seqB (seqB (codeOf f)))))))))))))))))))
def y15 (f : Func) : Array Oper := opsOf (seqB (seqB (condT (seqB (seqB (seqB (blkC (seqA (seqB (seqB (loopC (blkC (seqB (seqA (seqB (seqB (seqB (codeOf f))))))))))))))))))
def y20 (f : Func) : Array Oper := opsOf (seqA (seqB (blkC (seqA (seqB (seqB (loopC (blkC (seqB (seqA (seqB (seqB (seqB (seqB (codeOf f)))))))))))))))
def y21 (f : Func) : Array Oper := opsOf (seqA (loopC (blkC (seqB (seqB (blkC (seqA (seqB (seqB (loopC (blkC (seqB (seqA (seqB (seqB (seqB (seqB (codeOf f))))))))))))))))))
theorem y4_l : (y4 Try.f26).toList = [at_ (y4 Try.f26) 0, at_ (y4 Try.f26) 1] := by kernel_rfl
theorem y4_0 : (at_ (y4 Try.f26) 0).op = .makeMap 79 none ∧ (at_ (y4 Try.f26) 0).dst = some 25 ∧ (at_ (y4 Try.f26) 0).guard = none := ⟨by kernel_rfl, by kernel_rfl, by kernel_rfl⟩
theorem y4_1 : (at_ (y4 Try.f26) 1).op = .assign (.tmp 25) ∧ (at_ (y4 Try.f26) 1).dst = some 6 ∧ (at_ (y4 Try.f26) 1).guard = none := ⟨by kernel_rfl, by kernel_rfl, by kernel_rfl⟩
theorem y13_l : (y13 Try.f26).toList = (y13 Try.f26).toList.take 2 ++ (at_ (y13 Try.f26) 2 :: (y13 Try.f26).toList.drop 3) := by kernel_rfl
theorem y13_a : chkOps Try.prog Try.f26.ntmps (y13 Try.f26) ((y13 Try.f26).toList.take 2) q13a = true := by decide +kernel
theorem y13_b : chkOps Try.prog Try.f26.ntmps (y13 Try.f26) ((y13 Try.f26).toList.drop 3) q13b = true := by decide +kernel
theorem y13_2 : (at_ (y13 Try.f26) 2).op = .lookup 79 (.tmp 52) (.tmp 53) false ∧ (at_ (y13 Try.f26) 2).dst = some 54 ∧ (at_ (y13 Try.f26) 2).guard = none := ⟨by kernel_rfl, by kernel_rfl, by kernel_rfl⟩
theorem y15_l : (y15 Try.f26).toList = (y15 Try.f26).toList.take 2 ++ [at_ (y15 Try.f26) 2] := by kernel_rfl
theorem y15_a : chkOps Try.prog Try.f26.ntmps (y15 Try.f26) ((y15 Try.f26).toList.take 2) q15c = true := by decide +kernel
theorem y15_2 : (at_ (y15 Try.f26) 2).op = .mapUpdate 79 (.tmp 57) (.tmp 58) (.const (.int .i64 1)) ∧ (at_ (y15 Try.f26) 2).dst = none ∧ (at_ (y15 Try.f26) 2).guard = none := ⟨by kernel_rfl, by kernel_rfl, by kernel_rfl⟩
theorem y20_l : (y20 Try.f26).toList = (y20 Try.f26).toList.take 1 ++ [at_ (y20 Try.f26) 1] := by kernel_rfl
theorem y20_a : chkOps Try.prog Try.f26.ntmps (y20 Try.f26) ((y20 Try.f26).toList.take 1) q20a = true := by decide +kernel
theorem y20_1 : (at_ (y20 Try.f26) 1).op = .range 9 (.tmp 66) ∧ (at_ (y20 Try.f26) 1).dst = some 67 ∧ (at_ (y20 Try.f26) 1).guard = none := ⟨by kernel_rfl, by kernel_rfl, by kernel_rfl⟩
theorem y21_l : (y21 Try.f26).toList = at_ (y21 Try.f26) 0 :: (y21 Try.f26).toList.drop 1 := by kernel_rfl
theorem y21_a : chkOps Try.prog Try.f26.ntmps (y21 Try.f26) ((y21 Try.f26).toList.drop 1) q21c = true := by decide +kernel
theorem y21_0 : (at_ (y21 Try.f26) 0).op = .next (.tmp 67) true ∧ (at_ (y21 Try.f26) 0).dst = some 68 ∧ (at_ (y21 Try.f26) 0).guard = none := ⟨by kernel_rfl, by kernel_rfl, by kernel_rfl⟩
theorem n26 : Try.f26.ntmps = 87 := by kernel_rfl
section
variable {C : Ctx} {ι ι' : Nat → Loc} {S S' : Nat → Prop} {σ σ' : Slots} {H H' : LH} {a a' : Act} {w w' : World} {m : Nat} {g : Value → Value}
/-- The map of the pairs that were seen. -/
structure Seen (C : Ctx) (ι : Nat → Loc) (S : Nat → Prop) (H : LH) (w : World) (m : Nat) (p : List (Int × Int)) : Prop where
  ex : ∃ g, MapAt w m isP (.int .i64 0) g ∧ ∀ a b, g (.agg #[.int .i32 a, .int .i32 b]) = .int .i64 (if (a, b) ∈ p then 1 else 0)
  hm : Hid ι S H w m
  hC : C.w0.heap.size ≤ m
theorem Seen.step {p : List (Int × Int)} (h : Seen C ι S H w m p) {D : Ctx} (h' : R (D.now w ι S H) ι' S' σ' H' a' w') : Seen C ι' S' H' w' m p := by
  obtain ⟨⟨g, hg, hp⟩, hm, hC⟩ := h
  have := hm.step h'
  exact ⟨⟨g, hg.same this.2, hp⟩, this.1, hC⟩
theorem Seen.nil {p : List (Int × Int)} (h : Seen C ι S H w m p) : Seen C ι S [] w m p := ⟨h.ex, h.hm.nil, h.hC⟩
theorem vr_pair {a b : Int} {u : Value} (h : VR w S (.agg [.int .i32 a, .int .i32 b]) u) : u = .agg #[.int .i32 a, .int .i32 b] := by
  cases h with
  | agg cs us hl hu =>
    have h0 := hu 0 (by show 0 < 2; decide)
    have h1 := hu 1 (by show 1 < 2; decide)
    have e0 : us.getD 0 Go.undef = .int .i32 a := by
      generalize us.getD 0 Go.undef = x at h0
      cases h0; rfl
    have e1 : us.getD 1 Go.undef = .int .i32 b := by
      generalize us.getD 1 Go.undef = x at h1
      cases h1; rfl
    have hl : us.size = 2 := hl
    congr 1
    apply Array.ext
    · simpa using hl
    · intro i h1 h2
      match i with
      | 0 => simpa [Array.getD, hl] using e0
      | 1 => simpa [Array.getD, hl] using e1
      | i + 2 => simp at h2; omega
theorem slot_pair {t : Nat} {x y : Int} (h : R C ι S σ H a w) (hs : Slots.get σ t = .c (.agg [.int .i32 x, .int .i32 y])) : a.tmps.getD t Go.undef = .agg #[.int .i32 x, .int .i32 y] := by
  have := h.sl t
  rw [hs] at this
  exact vr_pair (avr_c this)
theorem slot_str {t : Nat} {s : ByteArray} (h : R C ι S σ H a w) (hs : Slots.get σ t = .c (.str s)) : a.tmps.getD t Go.undef = .string s := by
  have := h.sl t
  rw [hs] at this
  exact avr_str this
theorem no_idsA {r : Rec} : ∀ id ob, argBase ≤ id → LH.get [(704, robj r)] id = some ob → ¬ ob.own := fun id ob hge hg => by
  unfold argBase at hge
  simp only [LH.get, if_neg (show ¬704 = id by omega)] at hg
  cases hg
theorem no_idsB {r : Rec} {x y : Int} : ∀ id ob, argBase ≤ id → LH.get (hB r x y) id = some ob → ¬ ob.own := fun id ob hge hg => by
  unfold argBase at hge
  simp only [hB, LH.get, if_neg (show ¬704 = id by omega), if_neg (show ¬1408 = id by omega)] at hg
  cases hg
theorem no_idsS : ∀ id ob, argBase ≤ id → LH.get hS id = some ob → ¬ ob.own := fun id ob hge hg => by
  unfold argBase at hge
  simp only [hS, LH.get, if_neg (show ¬1472 = id by omega)] at hg
  cases hg
theorem rgn4 {l : List Rec} {Q : Exit → Act → World → Prop} (hn : C.n = Try.f26.ntmps) (hR : R C ι S [(0, .c (.sl 8 (recs l)))] [] a w)
    (hK : ∀ m a' w', R C ι S [(0, .c (.sl 8 (recs l))), (6, .c (.raw (.map (some m))))] [] a' w' → Seen C ι S [] w' m [] → Q .normal a' w') :
    (Code.region 4 (y4 Try.f26) false).wp Try.prog Q a w := by
  refine wp_region_list ?_
  rw [y4_l]
  obtain ⟨p1, p2, p3⟩ := y4_0
  obtain ⟨q1, q2, q3⟩ := y4_1
  refine op_val p3 (ex_map p1) ?_
  rw [p2]
  obtain ⟨h1, hh⟩ := hR.newhid (.map #[] 0)
  have h2 := h1.put (d := some 25) (av := .c (.raw (.map (some w.heap.size)))) (v := .map (some w.heap.size)) (.c _ _ (.raw _)) (fun k hk => by injection hk with hk; subst hk; rw [hn, n26]; decide)
  have hv := slot_raw h2 (t := 25) rfl
  refine op_val (v := (a.put (some 25) (.map (some w.heap.size))).tmps.getD 25 Go.undef) q3 (by
    unfold execOp
    simp only [q1]
    rfl) ?_
  rw [q2, hv]
  have h3 := h2.put (d := some 6) (av := .c (.raw (.map (some w.heap.size)))) (v := .map (some w.heap.size)) (.c _ _ (.raw _)) (fun k hk => by injection hk with hk; subst hk; rw [hn, n26]; decide)
  unfold wpList
  exact hK w.heap.size _ _ (h3.weak (l := [(0, .c (.sl 8 (recs l))), (6, .c (.raw (.map (some w.heap.size))))]) ⟨rfl, rfl, trivial⟩) ⟨⟨_, MapAt.new w isP _, fun a b => rfl⟩, hh, hR.fr.size⟩
theorem rgn13 {l : List Rec} {i : Nat} {r : Rec} {x y : Int} {p : List (Int × Int)} {Q : Exit → Act → World → Prop} (hn : C.n = Try.f26.ntmps) (hR : R C ι S (sC l (.map (some m)) i) (hB r x y) a w) (hF : Seen C ι S (hB r x y) w m p)
    (hK : ∀ ι' S' a' w', R C ι' S' ((55, .c (.bool (decide (0 < (if (x, y) ∈ p then 1 else 0 : Int))))) :: sC l (.map (some m)) i) (hB r x y) a' w' → Seen C ι' S' (hB r x y) w' m p → Q .normal a' w') :
    (Code.region 13 (y13 Try.f26) false).wp Try.prog Q a w := by
  refine wp_region_list ?_
  rw [y13_l]
  refine opsP_sound (C := C.now w ι S (hB r x y)) _ q13a (by show chkOps _ C.n _ _ _ = true; rw [hn]; exact y13_a) hR.rebase (rn_ok (.reg q13a) (fun _ _ _ h => h) (wq13a l _ i r x y (fun e σ H => e = .norm ∧ Has σ ((53, .c (.agg [.int .i32 x, .int .i32 y])) :: (52, .c (.raw (.map (some m)))) :: sC l (.map (some m)) i) ∧ H = hB r x y) fun σ h => ⟨rfl, h, rfl⟩)) fun ι3 S3 σ3 H3 a3 w3 hq h3 => ?_
  obtain ⟨_, hs, rfl⟩ := hq
  have F3 := hF.step h3
  have h3 := R.unbase hR.base h3 no_idsB
  obtain ⟨g, hg, hp⟩ := F3.ex
  refine op_val y13_2.2.2 (ex_look y13_2.1 (by rw [slot_raw h3 hs.2.1, slot_pair h3 hs.1]; exact hg.look map79 keys82 (zero3 w3) ⟨x, y, rfl⟩)) ?_
  rw [y13_2.2.1, hp]
  have h5 := h3.put (d := some 54) (av := .c (.int .i64 (if (x, y) ∈ p then 1 else 0))) (v := .int .i64 (if (x, y) ∈ p then 1 else 0)) (.c _ _ (.int _ _)) (fun k hk => by injection hk with hk; subst hk; rw [hn, n26]; decide)
  have h6 := R.weak (l := (54, .c (.int .i64 (if (x, y) ∈ p then 1 else 0))) :: sC l (.map (some m)) i) h5 ⟨rfl, hs.2.2⟩
  refine ops_sound (C := C.now w3 ι3 S3 (hB r x y)) _ q13b (by show chkOps _ C.n _ _ _ = true; rw [hn]; exact y13_b) h6.rebase (rn_ok (.reg q13b) (fun _ _ _ h => h) (wq13b l _ i r x y _ (fun e σ H => e = .norm ∧ Has σ ((55, .c (.bool (decide (0 < (if (x, y) ∈ p then 1 else 0 : Int))))) :: sC l (.map (some m)) i) ∧ H = hB r x y) fun σ h => ⟨rfl, h, rfl⟩)) fun ι7 S7 σ7 H7 a7 w7 hq h7 => ?_
  obtain ⟨_, hs7, rfl⟩ := hq
  exact hK ι7 S7 a7 w7 (R.weak (R.unbase h6.base h7 no_idsB) hs7) (F3.step h7)
theorem rgn15 {l : List Rec} {i : Nat} {r : Rec} {x y : Int} {p : List (Int × Int)} {Q : Exit → Act → World → Prop} (hn : C.n = Try.f26.ntmps) (hR : R C ι S (sC l (.map (some m)) i) (hB r x y) a w) (hF : Seen C ι S (hB r x y) w m p)
    (hK : ∀ ι' S' a' w', R C ι' S' (sA l (.map (some m)) i) [] a' w' → Seen C ι' S' [] w' m ((x, y) :: p) → Q .normal a' w') :
    (Code.region 15 (y15 Try.f26) false).wp Try.prog Q a w := by
  refine wp_region_list ?_
  rw [y15_l]
  refine opsP_sound (C := C.now w ι S (hB r x y)) _ q15c (by show chkOps _ C.n _ _ _ = true; rw [hn]; exact y15_a) hR.rebase (rn_ok (.reg q15c) (fun _ _ _ h => h) (wq15c l _ i r x y (fun e σ H => e = .norm ∧ Has σ ((58, .c (.agg [.int .i32 x, .int .i32 y])) :: (57, .c (.raw (.map (some m)))) :: sA l (.map (some m)) i) ∧ H = hB r x y) fun σ h => ⟨rfl, h, rfl⟩)) fun ι3 S3 σ3 H3 a3 w3 hq h3 => ?_
  obtain ⟨_, hs, rfl⟩ := hq
  have F3 := hF.step h3
  have h3 := R.unbase hR.base h3 no_idsB
  obtain ⟨g, hg, hp⟩ := F3.ex
  obtain ⟨X, hX1, hX2⟩ := hg.put map79 keys82 (k := .agg #[.int .i32 x, .int .i32 y]) ⟨x, y, rfl⟩ (.int .i64 1)
  refine op_skip y15_2.2.2 y15_2.2.1 (ex_put y15_2.1 (by rw [slot_raw h3 hs.2.1, slot_pair h3 hs.1]; exact hX1)) ?_
  have h7 := h3.hid F3.hm F3.hC X
  have h8 := R.drop (l := [(0, .sl 8 (recs l)), (6, .raw (.map (some m))), (26, .sl 8 (recs l)), (27, .int .i64 l.length), (28, .int .i64 i)]) h7 hs.2.2
  unfold wpList
  refine hK _ _ _ _ h8 ⟨⟨_, hX2, fun c d => ?_⟩, (F3.hm.hid X).nil, F3.hC⟩
  by_cases h : c = x ∧ d = y
  · obtain ⟨rfl, rfl⟩ := h
    simp
  · have h1 : ¬ (Value.agg #[.int .i32 c, .int .i32 d] = .agg #[.int .i32 x, .int .i32 y]) := fun h' => by
      injection h' with h'
      simp at h'
      exact h h'
    have h2 : ((c, d) ∈ (x, y) :: p) = ((c, d) ∈ p) := by
      simp only [List.mem_cons, Prod.mk.injEq]
      exact propext ⟨fun h' => h'.resolve_left h, .inr⟩
    simp only [if_neg h1, h2]
    exact hp c d
/-- An iterator over a string. -/
structure Iter (C : Ctx) (ι : Nat → Loc) (S : Nat → Prop) (H : LH) (w : World) (it : Nat) (s : ByteArray) (pos : Nat) : Prop where
  hv : w.heap[it]? = some (.stringIter s pos)
  hm : Hid ι S H w it
  hC : C.w0.heap.size ≤ it
theorem Iter.step {it : Nat} {s : ByteArray} {pos : Nat} (h : Iter C ι S H w it s pos) {D : Ctx} (h' : R (D.now w ι S H) ι' S' σ' H' a' w') : Iter C ι' S' H' w' it s pos := by
  obtain ⟨hv, hm, hC⟩ := h
  have := hm.step h'
  exact ⟨this.2.trans hv, this.1, hC⟩
theorem str9 : Try.prog.underlying 9 = some .string := by kernel_rfl
theorem rgn20 {l : List Rec} {k : Nat} {Q : Exit → Act → World → Prop} (hn : C.n = Try.f26.ntmps) (hR : R C ι S ((12, .c (.str (strK k))) :: sS l k) hS a w)
    (hK : ∀ it ι' S' a' w', R C ι' S' (sT l k (.pointer (some ⟨it, 0, none⟩))) hS a' w' → Iter C ι' S' hS w' it (strK k) 0 → Q .normal a' w') :
    (Code.region 20 (y20 Try.f26) false).wp Try.prog Q a w := by
  refine wp_region_list ?_
  rw [y20_l]
  refine opsP_sound (C := C.now w ι S hS) _ q20a (by show chkOps _ C.n _ _ _ = true; rw [hn]; exact y20_a) hR.rebase (rn_ok (.reg q20a) (fun _ _ _ h => h) (wq20a l k (fun e σ H => e = .norm ∧ Has σ ((66, .c (.str (strK k))) :: sS l k) ∧ H = hS) fun σ h => ⟨rfl, h, rfl⟩)) fun ι3 S3 σ3 H3 a3 w3 hq h3 => ?_
  obtain ⟨_, hs, rfl⟩ := hq
  have h3 := R.unbase hR.base h3 no_idsS
  refine op_val (v := .pointer (some ⟨w3.heap.size, 0, none⟩)) (w' := w3.alloc (.stringIter (strK k) 0)) y20_1.2.2 (by
    unfold execOp
    simp only [y20_1.1, Sem.run_bind]
    show ((Instr.range 9 (a3.tmps.getD 66 Go.undef)).run Try.prog w3).andThen _ = _
    rw [slot_str h3 hs.1, run_range_string w3 9 _ str9]
    rfl) ?_
  rw [y20_1.2.1]
  obtain ⟨h4, hh⟩ := h3.newhid (.stringIter (strK k) 0)
  have h5 := h4.put (d := some 67) (av := .c (.raw (.pointer (some ⟨w3.heap.size, 0, none⟩)))) (v := .pointer (some ⟨w3.heap.size, 0, none⟩)) (.c _ _ (.raw _)) (fun k hk => by injection hk with hk; subst hk; rw [hn, n26]; decide)
  have h6 := R.weak (l := sT l k (.pointer (some ⟨w3.heap.size, 0, none⟩))) h5 ⟨rfl, hs.2⟩
  unfold wpList
  refine hK w3.heap.size ι3 S3 _ _ h6 ⟨?_, hh, h3.fr.size⟩
  show (w3.heap.push _)[w3.heap.size]? = _
  simp
theorem rgn21 {l : List Rec} {k it pos : Nat} {s : ByteArray} {Q : Exit → Act → World → Prop} (hn : C.n = Try.f26.ntmps) (ha : ∀ i (h : i < s.size), (s[i]'h).toNat < 128) (hR : R C ι S (sT l k (.pointer (some ⟨it, 0, none⟩))) hS a w) (hF : Iter C ι S hS w it s pos)
    (hK : ∀ (h : pos < s.size) ι' S' a' w', R C ι' S' ((69, .c (.bool true)) :: (68, .tup [.c (.bool true), .c (.int .i64 pos), .c (.int .i32 (s[pos]'h).toNat)]) :: sT l k (.pointer (some ⟨it, 0, none⟩))) hS a' w' → Iter C ι' S' hS w' it s (pos + 1) → Q .normal a' w')
    (hK2 : ¬ pos < s.size → ∀ ι' S' a' w', R C ι' S' ((69, .c (.bool false)) :: (68, .tup [.c (.bool false)]) :: sT l k (.pointer (some ⟨it, 0, none⟩))) hS a' w' → Q .normal a' w') :
    (Code.region 21 (y21 Try.f26) false).wp Try.prog Q a w := by
  refine wp_region_list ?_
  rw [y21_l]
  have h67 := slot_raw hR (t := 67) rfl
  by_cases h : pos < s.size
  · refine op_val (v := .tuple #[.bool true, .int .i64 pos, .int .i32 (s[pos]'h).toNat]) (w' := w.iterAt it s (pos + 1)) y21_0.2.2 (by
      unfold execOp
      simp only [y21_0.1, Sem.run_bind]
      show ((Instr.next (a.tmps.getD 67 Go.undef) true _).run Try.prog w).andThen _ = _
      rw [h67, Lib.run_next_ascii_at w it s pos _ hF.hv h (ha pos h)]
      rfl) ?_
    rw [y21_0.2.1]
    have h4 := hR.hid hF.hm hF.hC (.stringIter s (pos + 1))
    have F4 : Iter C ι S hS { w with heap := w.heap.setIfInBounds it (.stringIter s (pos + 1)) } it s (pos + 1) := ⟨Lib.iterAt_heap w it s pos (pos + 1) hF.hv, hF.hm.hid _, hF.hC⟩
    have h5 := h4.put (d := some 68) (av := .tup [.c (.bool true), .c (.int .i64 pos), .c (.int .i32 (s[pos]'h).toNat)]) (v := .tuple #[.bool true, .int .i64 pos, .int .i32 (s[pos]'h).toNat]) (.tup _ _ rfl fun i hi => by
      match i, hi with
      | 0, _ => exact .c _ _ (.bool _)
      | 1, _ => exact .c _ _ (.int _ _)
      | 2, _ => exact .c _ _ (.int _ _)) (fun k hk => by injection hk with hk; subst hk; rw [hn, n26]; decide)
    have h6 := R.weak (l := (68, .tup [.c (.bool true), .c (.int .i64 pos), .c (.int .i32 (s[pos]'h).toNat)]) :: sT l k (.pointer (some ⟨it, 0, none⟩))) h5 ⟨rfl, rfl, rfl, rfl, rfl, rfl, trivial⟩
    refine ops_sound (C := C.now _ ι S hS) _ q21c (by show chkOps _ C.n _ _ _ = true; rw [hn]; exact y21_a) h6.rebase (rn_ok (.reg q21c) (fun _ _ _ h => h) (wq21c l k _ true [.c (.int .i64 pos), .c (.int .i32 (s[pos]'h).toNat)] (fun e σ H => e = .norm ∧ Has σ ((69, .c (.bool true)) :: (68, .tup [.c (.bool true), .c (.int .i64 pos), .c (.int .i32 (s[pos]'h).toNat)]) :: sT l k (.pointer (some ⟨it, 0, none⟩))) ∧ H = hS) fun σ h => ⟨rfl, h, rfl⟩)) fun ι7 S7 σ7 H7 a7 w7 hq h7 => ?_
    obtain ⟨_, hs7, rfl⟩ := hq
    exact hK h ι7 S7 a7 w7 (R.weak (R.unbase h6.base h7 no_idsS) hs7) (F4.step h7)
  · refine op_val (v := .tuple #[.bool false]) (w' := w) y21_0.2.2 (by
      unfold execOp
      simp only [y21_0.1, Sem.run_bind]
      show ((Instr.next (a.tmps.getD 67 Go.undef) true _).run Try.prog w).andThen _ = _
      rw [h67, Lib.run_next_end_at w it s pos _ hF.hv h]
      rfl) ?_
    rw [y21_0.2.1]
    have h5 := hR.put (d := some 68) (av := .tup [.c (.bool false)]) (v := .tuple #[.bool false]) (.tup _ _ rfl fun i hi => by
      match i, hi with
      | 0, _ => exact .c _ _ (.bool _)) (fun k hk => by injection hk with hk; subst hk; rw [hn, n26]; decide)
    have h6 := R.weak (l := (68, .tup [.c (.bool false)]) :: sT l k (.pointer (some ⟨it, 0, none⟩))) h5 ⟨rfl, rfl, rfl, rfl, rfl, rfl, trivial⟩
    refine ops_sound (C := C.now w ι S hS) _ q21c (by show chkOps _ C.n _ _ _ = true; rw [hn]; exact y21_a) h6.rebase (rn_ok (.reg q21c) (fun _ _ _ h => h) (wq21c l k _ false [] (fun e σ H => e = .norm ∧ Has σ ((69, .c (.bool false)) :: (68, .tup [.c (.bool false)]) :: sT l k (.pointer (some ⟨it, 0, none⟩))) ∧ H = hS) fun σ h => ⟨rfl, h, rfl⟩)) fun ι7 S7 σ7 H7 a7 w7 hq h7 => ?_
    obtain ⟨_, hs7, rfl⟩ := hq
    exact hK2 h ι7 S7 a7 w7 (R.weak (R.unbase h6.base h7 no_idsS) hs7)
theorem asc_abc : ∀ i (h : i < abc.size), (abc[i]'h).toNat < 128 := by decide +kernel
theorem asc_digits : ∀ i (h : i < digits.size), (digits[i]'h).toNat < 128 := by decide +kernel
theorem asc_strK (k : Nat) : ∀ i (h : i < (strK k).size), ((strK k)[i]'h).toNat < 128 := by
  unfold strK
  split
  · exact asc_abc
  · exact asc_digits
/-- The inner loop: the letters of a string. -/
theorem loop26 {l : List Rec} {k : Nat} {it : Nat} {Q : Exit → Act → World → Prop} (hl : ∀ r ∈ l, r.ok) (hlen : l.length < 9223372036854775808) (hn : C.n = Try.f26.ntmps)
    (hK : plainsP l (strK k).data.toList = true → ∀ ι S a w, R C ι S (sS l k) hS a w → Q (.exit 4) a w) (hK2 : plainsP l (strK k).data.toList = false → ∀ ι S a w, R C ι S [(2, .c (.int .i64 l.length)), (3, .c (.int .i64 70))] [] a w → Q .ret a w) :
    ∀ (n pos : Nat) (ι : Nat → Loc) (S : Nat → Prop) (a : Act) (w : World), (strK k).size - pos < n → pos ≤ (strK k).size → plainsP l ((strK k).data.toList.drop pos) = plainsP l (strK k).data.toList → R C ι S (sT l k (.pointer (some ⟨it, 0, none⟩))) hS a w → Iter C ι S hS w it (strK k) pos →
      LoopFrom Try.prog (loopC (blkC (seqB (seqB (blkC (seqA (seqB (seqB (loopC (blkC (seqB (seqA (seqB (seqB (seqB (seqB (codeOf Try.f26))))))))))))))))) Q a w := by
  intro n
  induction n with
  | zero => intro pos _ _ _ _ h; omega
  | succ n ih =>
    intro pos ι S a w hk hpos hpl hR hF
    refine LoopFrom.round ?_
    rw [split26d]
    have hsz : (strK k).data.toList.length = (strK k).size := Array.length_toList
    refine wp_seq (rgn21 hn (asc_strK k) hR hF (fun h ι1 S1 a1 w1 h1 F1 => ?_) (fun h ι1 S1 a1 w1 h1 => ?_))
    · refine wp_seq (code_sound (C := C.now w1 ι1 S1 hS) yacn _ (by show chkC _ C.n _ _ = true; rw [hn]; exact chk_yacn) h1.rebase (rn_ok _ (fun _ _ _ h => h) (wyacn l k _ true _ (fun e σ H => e = .norm ∧ Has σ ((68, .tup [.c (.bool true), .c (.int .i64 pos), .c (.int .i32 ((strK k)[pos]'h).toNat)]) :: sT l k (.pointer (some ⟨it, 0, none⟩))) ∧ H = hS) (fun _ σ h => ⟨rfl, h, rfl⟩) (fun h => by cases h))) fun e ι2 S2 σ2 H2 a2 w2 hq h2 => ?_)
      obtain ⟨rfl, hs2, rfl⟩ := hq
      have F2 := F1.step h2
      have h2 := R.weak (R.unbase h1.base h2 no_idsS) hs2
      have hlt : pos < (strK k).data.toList.length := by omega
      have hd : (strK k).data.toList.drop pos = (strK k)[pos]'h :: (strK k).data.toList.drop (pos + 1) := by
        rw [List.drop_eq_getElem_cons hlt]; rfl
      rw [hd] at hpl
      have hc : i32ok (((strK k)[pos]'h).toNat : Int) := by
        have := asc_strK k pos h
        unfold i32ok; omega
      refine code_sound (C := C.now w2 ι2 S2 hS) ya22 _ (by show chkC _ C.n _ _ = true; rw [hn]; exact chk_ya22) h2.rebase (rn_ok _ (fun _ _ _ h => h) (wya22 l k _ pos _ hl hlen hc (fun e σ H => (e = .ret ∧ plainP l (((strK k)[pos]'h).toNat : Int) = false ∧ Has σ [(2, .c (.int .i64 l.length)), (3, .c (.int .i64 70))]) ∨ (e = .norm ∧ plainP l (((strK k)[pos]'h).toNat : Int) = true ∧ Has σ (sT l k (.pointer (some ⟨it, 0, none⟩))) ∧ H = hS)) (fun hp σ H h => .inl ⟨rfl, hp, h⟩) (fun hp σ h => .inr ⟨rfl, hp, h, rfl⟩))) fun e ι3 S3 σ3 H3 a3 w3 hq h3 => ?_
      have hall : plainsP l ((strK k)[pos]'h :: (strK k).data.toList.drop (pos + 1)) = (plainP l (((strK k)[pos]'h).toNat : Int) && plainsP l ((strK k).data.toList.drop (pos + 1))) := rfl
      rw [hall] at hpl
      rcases hq with ⟨rfl, hp, hs3⟩ | ⟨rfl, hp, hs3, rfl⟩
      · rw [hp, Bool.false_and] at hpl
        exact hK2 hpl.symm ι3 S3 a3 w3 (R.unbase h2.base (R.drop (l := [(2, .int .i64 l.length), (3, .int .i64 70)]) h3 hs3) no_ids0)
      · rw [hp, Bool.true_and] at hpl
        exact ih (pos + 1) ι3 S3 a3 w3 (by omega) (by omega) hpl (R.weak (R.unbase h2.base h3 no_idsS) hs3) (F2.step h3)
    · refine wp_seq (code_sound (C := C.now w1 ι1 S1 hS) yacn _ (by show chkC _ C.n _ _ = true; rw [hn]; exact chk_yacn) h1.rebase (rn_ok _ (fun _ _ _ h => h) (wyacn l k _ false _ (fun e σ H => e = .exit 4 ∧ Has σ (sS l k) ∧ H = hS) (fun h => by cases h) (fun _ σ h => ⟨rfl, h, rfl⟩))) fun e ι2 S2 σ2 H2 a2 w2 hq h2 => ?_)
      obtain ⟨rfl, hs2, rfl⟩ := hq
      rw [List.drop_eq_nil_of_le (by omega)] at hpl
      exact hK hpl.symm ι2 S2 a2 w2 (R.weak (R.unbase h1.base h2 no_idsS) hs2)
end
end Go.Proofs.Ytcpdnpaedkcebaa.V
